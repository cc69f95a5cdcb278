/- Plain lemmas of our own, no statement of the seat: regions. -/
import Derived.Test.YtcjdbfnnbejmeaaGreatVcV
import Derived.Test.YtcjdbfnnbejmeaaGreatVcM
namespace Go.Proofs.YtcjdbfnnbejmeaaGreat.Vc
set_option linter.unusedSimpArgs false
set_option linter.unusedVariables false
open Go.RowKit
section
variable {md : Bool} {ds : List Deferred} {P : Program} {X : Ctx} {β κ : Nat → Nat} {s : St} {tm : Array Value} {w w' : World} {ops : Array Oper} {G pr : List (Nat × Option Nat)} {pc : List Nat} {S L : Array Bool} {pend : List Pnd} {Φ : List ((Nat → Prop) × World)}
variable {Q : Exit → Act → World → Prop}

theorem heads_spec {n : Nat} {T : Nat → Bool} {K : St → Prop} {pg : PG} : ∀ (t : PT) (hs : List Nat) (vt : VT), compT P md n ops t = some vt → chk P ops T pc hs t S = true → t.heads ≠ [] → vcVT pg vt s K →
    preOK ops pc t.pairs S = true ∧ (∃ i, stepOK P ops t.pairs S i = true) ∧ ∀ j, S.getD j true = false → j ∉ lz t.pairs → j ∈ hs ∨ waitsOut ops (fun e => S.getD e false || (lz t.pairs).contains e) j = true ∨
      ∃ x r vr, compStep P md n ops j = some x ∧ compT P md n ops r = some vr ∧ vcSteps pg [x] s (fun s' => vcVT pg vr s' K) ∧ r.pairs = t.pairs ∧ stepOK P ops t.pairs S j = true ∧ chk P ops T pc [] r (S.setIfInBounds j true) = true := by
  intro t
  induction t with
  | op i r ih =>
    intro hs vt hc hck _ hk
    simp only [compT] at hc
    split at hc
    · rename_i x vr hx hr
      simp only [Option.some.injEq] at hc; subst hc
      simp only [chk, Bool.and_eq_true, List.all_eq_true, List.mem_range, Bool.or_eq_true, List.contains_eq_mem, decide_eq_true_eq] at hck
      obtain ⟨⟨⟨h1, h2⟩, h3⟩, h4⟩ := hck
      refine ⟨h1, ⟨i, h2⟩, fun j hj hl => ?_⟩
      by_cases hji : j = i
      · subst hji
        exact .inr (.inr ⟨x, r, vr, hx, hr, hk, rfl, h2, h4⟩)
      · by_cases hjo : j < ops.size
        · rcases h3 j hjo with ((h5 | h5) | h5) | h5
          · rw [hj] at h5; cases h5
          · exact absurd h5 hl
          · rcases List.mem_cons.1 h5 with h5 | h5
            · exact absurd h5 hji
            · exact .inl h5
          · exact .inr (.inl (by simpa [PT.pairs] using h5))
        · refine .inr (.inl ?_)
          simp only [waitsOut, Array.getElem?_eq_none (Nat.le_of_not_lt hjo)]
    · cases hc
  | alt i l r ihl ihr =>
    intro hs vt hc hck _ hk
    simp only [compT] at hc
    split at hc
    · rename_i x vl vr hx hl hr
      simp only [Option.some.injEq] at hc; subst hc
      simp only [chk, Bool.and_eq_true, decide_eq_true_eq, Bool.not_eq_true'] at hck
      obtain ⟨⟨⟨⟨h1, h2⟩, h3⟩, h4⟩, h5⟩ := hck
      obtain ⟨g1, _, g2⟩ := ihr (i :: hs) vr hr h5 (fun e => by rw [e] at h2; cases h2) hk.2
      simp only [PT.pairs]
      rw [h1]
      refine ⟨g1, ⟨i, by rw [← h1]; exact h3⟩, fun j hj hl' => ?_⟩
      by_cases hji : j = i
      · subst hji
        exact .inr (.inr ⟨x, l, vl, hx, hl, hk.1, h1, by rw [← h1]; exact h3, h4⟩)
      · rcases g2 j hj hl' with h6 | h6
        · rcases List.mem_cons.1 h6 with h6 | h6
          · exact absurd h6 hji
          · exact .inl h6
        · exact .inr h6
    · cases hc
  | nil => intro hs vt hc hck hne; exact absurd rfl hne
  | qu => intro hs vt hc hck hne; exact absurd rfl hne
  | pre => intro hs vt hc hck hne; exact absurd rfl hne
  | box => intro hs vt hc hck hne; exact absurd rfl hne
theorem compStep_alloc {n : Nat} {i d : Nat} {z : List Value} {t : TypeId} (ha : allocOf P ops i = some (d, z, t)) {x : VStep} (hx : compStep P md n ops i = some x) : x = ⟨some d, none, .alloc z⟩ ∧ d < n := by
  obtain ⟨o, ho, hop, hgd, hdst, hcomp⟩ := allocOf_spec ha
  replace hcomp := (compOp_alloc (md := md) hop).trans hcomp
  unfold compStep at hx
  simp only [ho, hcomp, compGrd, hgd] at hx
  split at hx
  · rename_i hd
    simp only [Option.some.injEq] at hx
    subst hx
    exact ⟨by rw [hdst], dst_lt hd _ hdst⟩
  · cases hx
theorem compStep_store {n : Nat} {k d m : Nat} {v : Operand} (hs : storeOf P ops k = some (d, m, v)) {y : VStep} (hy : compStep P md n ops k = some y) : y = ⟨none, none, .store m (.tmp d) v⟩ := by
  obtain ⟨o, t, inf, ho, hop, hgd, hdst, hinf, rfl⟩ := storeOf_spec hs
  unfold compStep at hy
  have hcomp : compOp P md o = some (.store inf.size (.tmp d) v) := by
    obtain ⟨dst, op, type, pos, after, guard⟩ := o
    simp only at hop
    subst hop
    simp [compOp, hinf]
  simp only [ho, hcomp, compGrd, hgd] at hy
  split at hy
  · simp only [Option.some.injEq] at hy
    subst hy
    rw [hdst]
  · cases hy
theorem putAtS_app : ∀ (vs pre cs : List SV), cs.length = vs.length → putAtS pre.length (pre ++ cs) vs = pre ++ vs
  | [], pre, cs, h => by
    have : cs = [] := List.eq_nil_of_length_eq_zero h
    subst this; rfl
  | v :: vs, pre, [], h => by simp at h
  | v :: vs, pre, c :: cs, h => by
    simp only [putAtS]
    have h1 : (pre ++ c :: cs).set pre.length v = (pre ++ [v]) ++ cs := by simp
    have h2 := putAtS_app vs (pre ++ [v]) cs (by simpa using h)
    rw [h1]
    simpa using h2
theorem ev_upd {v : Operand} {d : Nat} (x : SV) (h : tmpIs v d = false) (bs : List Blk) (R : RO) : St.ev ⟨upd s.env d x, bs, R⟩ v = s.ev v := by
  cases v with
  | tmp t =>
    simp only [tmpIs, beq_eq_false_iff_ne, ne_eq] at h
    simp [St.ev, upd, h]
  | _ => rfl
theorem box_vc {pg : PG} {d m : Nat} {z : List Value} {v : Operand} (hm : m = z.length) (hv : tmpIs v d = false) {vt : VT} {K : St → Prop}
    (hk : vcVT pg (.step ⟨some d, none, .alloc z⟩ (.step ⟨none, none, .store m (.tmp d) v⟩ vt)) s K) :
    (cellsOf (s.ev v)).length = m ∧ (∀ c ∈ cellsOf (s.ev v), match c with | .val u => u.oneCell' = true | _ => True) ∧ vcVT pg vt ⟨upd s.env d (.loc s.blk.length 0), s.blk ++ [.box (cellsOf (s.ev v))], s.R⟩ K := by
  simp only [vcVT, vcSteps, vcOp, St.put] at hk
  have hget : (s.blk ++ [Blk.box (z.map SV.val)])[s.blk.length]? = some (.box (z.map .val)) := by simp
  have he : ∀ (bs : List Blk), St.ev ⟨upd s.env d (.loc s.blk.length 0), bs, s.R⟩ (.tmp d) = .loc s.blk.length 0 := fun bs => by simp [St.ev, upd]
  have hev : ∀ (bs : List Blk), (St.ev ⟨upd s.env d (.loc s.blk.length 0), bs, s.R⟩ v) = s.ev v := fun bs => ev_upd _ hv bs s.R
  simp only [he, hget, hev] at hk
  obtain ⟨h1, h2, h3, h4⟩ := hk
  refine ⟨h1, h3, ?_⟩
  have h5 := putAtS_app (cellsOf (s.ev v)) [] (z.map .val) (by simp [h1, hm])
  simp only [List.length_nil, List.nil_append] at h5
  rw [h5] at h4
  simpa using h4
theorem ask_den (hrel : Rel X β κ s tm w) {v : Operand} {m : Nat} (h1 : (cellsOf (s.ev v)).length = m) (h2 : ∀ c ∈ cellsOf (s.ev v), match c with | .val u => u.oneCell' = true | _ => True) :
    ((⟨tm, []⟩ : Act).eval v).cells.size = m ∧ ∀ c ∈ ((⟨tm, []⟩ : Act).eval v).cells.toList, c.oneCell' = true := by
  rw [hrel.eval [] v, cells_den]
  refine ⟨by simpa using h1, fun c hc => ?_⟩
  obtain ⟨c', hc', rfl⟩ := List.mem_map.1 (by simpa using hc)
  have := h2 c' hc'
  cases c' with
  | val u => exact this
  | _ => rfl
theorem count_set : ∀ (l : List Bool) (i : Nat), l[i]? = some false → l.count false = (l.set i true).count false + 1
  | [], i, h => by simp at h
  | b :: l, 0, h => by
    simp only [List.getElem?_cons_zero, Option.some.injEq] at h
    subst h
    simp
  | b :: l, i + 1, h => by
    simp only [List.getElem?_cons_succ] at h
    have := count_set l i h
    simp only [List.set_cons_succ, List.count_cons, this]
    omega
def cnt (L : Array Bool) : Nat := L.toList.count false
theorem cnt_set {L : Array Bool} {i : Nat} (h : L.getD i true = false) : cnt L = cnt (L.setIfInBounds i true) + 1 := by
  obtain ⟨h1, h2⟩ := getD_lt h
  have h3 : L.toList[i]? = some false := by
    simp only [Array.getElem?_toList]
    simp [h1] at h
    simp [h1, h]
  have := count_set _ _ h3
  simpa [cnt, Array.toList_setIfInBounds] using this

theorem compT_dn {n : Nat} : ∀ (t : PT) (vt : VT), compT P md n ops t = some vt → ∀ p ∈ t.pairs, ∃ x, compStep P md n ops p.1 = some x := by
  intro t
  induction t with
  | nil => intro vt hc p hp; cases hp
  | qu i r ih =>
    intro vt hc p hp
    simp only [compT] at hc
    split at hc
    · rename_i x vr hx hr; exact ih vr hr p hp
    · cases hc
  | op i r ih =>
    intro vt hc p hp
    simp only [compT] at hc
    split at hc
    · rename_i x vr hx hr; exact ih vr hr p hp
    · cases hc
  | pre k r ih =>
    intro vt hc p hp
    simp only [compT] at hc
    split at hc
    · rename_i hr; exact ih _ hr p hp
    · cases hc
  | box i k r ih =>
    intro vt hc p hp
    cases k with
    | none =>
      simp only [compT] at hc
      split at hc
      · rename_i x vr hx hr
        rcases List.mem_cons.1 hp with rfl | hp
        · exact ⟨x, hx⟩
        · exact ih vr hr p hp
      · cases hc
    | some k =>
      simp only [compT] at hc
      split at hc
      · rename_i x y vr hx hy hr
        rcases List.mem_cons.1 hp with rfl | hp
        · exact ⟨x, hx⟩
        · exact ih vr hr p hp
      · cases hc
  | alt i l r ihl ihr =>
    intro vt hc p hp
    simp only [compT] at hc
    split at hc
    · rename_i x vl vr hx hl hr; exact ihl vl hl p hp
    · cases hc
theorem Inv.unS (h : Inv P ops G pr pc S L pend Φ tm w) {j : Nat} (hj : j ∈ Region.ready .any ops L) : S.getD j true = false := by
  obtain ⟨h1, h2⟩ := getD_lt (mem_ready.1 hj).1
  refine getD_true_false (by rw [h.sS, ← h.sL]; exact h1) fun h3 => ?_
  rw [h.sub h3] at h2; cases h2
theorem Inv.contr (h : Inv P ops G pr pc S L pend Φ tm w) {j : Nat} (hj : j ∈ Region.ready .any ops L) (hw : waitsOut ops (fun e => S.getD e false || (lz pr).contains e) j = true) : False :=
  waitsOut_ready hw hj fun e he => by
    rcases h.ok he with h1 | h1
    · simp [h1]
    · simp [h1]
theorem Inv.asked (h : Inv P ops G pr pc S L pend Φ tm w) {pc' : List Nat} (hp : preOK ops pc' pr S = true) {j : Nat} (hj : j ∈ Region.ready .any ops L) {i : Nat} (hi : (i, some j) ∈ pr) : j ∈ pc' := by
  simp only [preOK, List.all_eq_true] at hp
  have := hp _ hi
  simp only [Bool.or_eq_true, List.contains_eq_mem, decide_eq_true_eq] at this
  refine this.resolve_right fun hw => h.contr hj (by simpa using hw)
theorem cnt_pos {j : Nat} {f : Nat} (hj : j ∈ Region.ready .any ops L) (hf : cnt L = f) : ∃ f', f = f' + 1 ∧ cnt (L.setIfInBounds j true) = f' := ⟨_, hf.symm.trans (cnt_set (mem_ready.1 hj).1), rfl⟩
theorem keepX {X : Ctx} (hX : X.keep = []) : ({ X with keep := ([] : List Pnd).map Pnd.kp } : Ctx) = X := by
  cases X
  simp only at hX
  subst hX
  rfl

theorem tree_sound (hG : pairsOK P ops G = true) (hns : Region.noSelect ops = true) (hX : X.keep = []) (hQp : ∀ c a w, ¬ Q (.panic c) a w) {K : St → Prop} (hQ : ∀ β κ s tm w, Rel X β κ s tm w → K s → Q .normal ⟨tm, ds⟩ w) :
    ∀ (fuel : Nat) (t : PT) (vt : VT) (pc : List Nat) (S L : Array Bool) (pend : List Pnd) (Φ : List ((Nat → Prop) × World)) (β κ : Nat → Nat) (s : St) (tm : Array Value) (w : World), compT P md X.n ops t = some vt → chk P ops (tailT P md ops G) pc [] t S = true →
    Inv P ops G t.pairs pc S L pend Φ tm w → Rel { X with keep := pend.map Pnd.kp } β κ s tm w → vcVT ⟨P, X.ng⟩ vt s K → cnt L = fuel → wpAnyF P .any ops (tailT P md ops G) Q Φ fuel L (putsP ⟨tm, ds⟩ pend) w := by
  intro fuel
  induction fuel using Nat.strongRecOn with
  | _ fuel ihf =>
  have node : ∀ (t : PT) (vt : VT) (pc : List Nat) (S L : Array Bool) (pend : List Pnd) (Φ : List ((Nat → Prop) × World)) (β κ : Nat → Nat) (s : St) (tm : Array Value) (w : World), t.heads ≠ [] → compT P md X.n ops t = some vt → chk P ops (tailT P md ops G) pc [] t S = true →
      Inv P ops G t.pairs pc S L pend Φ tm w → Rel { X with keep := pend.map Pnd.kp } β κ s tm w → vcVT ⟨P, X.ng⟩ vt s K → cnt L = fuel → wpAnyF P .any ops (tailT P md ops G) Q Φ fuel L (putsP ⟨tm, ds⟩ pend) w := by
    intro t vt pc S L pend Φ β κ s tm w hne hc hck h hrel hk hcnt
    obtain ⟨hpre, ⟨i0, hi0⟩, hbr⟩ := heads_spec t [] vt hc hck hne hk
    have hr0 : i0 ∈ Region.ready .any ops L := by
      simp only [stepOK, Bool.and_eq_true, Bool.not_eq_true', List.contains_eq_mem, decide_eq_false_iff_not] at hi0
      exact h.rdy hi0.1.1 hi0.1.2
    obtain ⟨f, rfl, _⟩ := cnt_pos hr0 hcnt
    refine ⟨fun e => (by rw [e] at hr0; cases hr0), fun j hj => ?_⟩
    obtain ⟨f', hf', hcj⟩ := cnt_pos hj hcnt
    obtain rfl : f = f' := by omega
    by_cases hl : j ∈ lz t.pairs
    · exact lazy_sound hG h hrel hj hl (fun i hi => (h.ask i j hi (h.asked hpre hj hi)).1) fun pend' w' hinv hrel' hkk =>
        ⟨fun _ => hkk, ihf f (by omega) t vt pc S _ pend' Φ β κ s tm w' hc hck hinv hrel' hk hcj⟩
    · have hSj := h.unS hj
      rcases hbr j hSj hl with h1 | h1 | ⟨x, r, vr, hx, hr, hkx, hpr, hst, hckr⟩
      · cases h1
      · exact (h.contr hj h1).elim
      · refine head_sound (X := X) rfl hns hQp h hrel hst hx hkx (fun β' κ' s' tm' w' hinv hrel' hk' hkk => ⟨hkk, ?_⟩) fun hlG => ?_
        · exact ihf f (by omega) r vr pc _ _ pend Φ β' κ' s' tm' w' hr hckr (by rw [hpr]; exact hinv) hrel' hk' hcj
        · rcases h.lzG j hlG with h1 | h1
          · exact hl h1
          · rw [(getD_lt hSj).2] at h1; cases h1
  intro t
  induction t with
  | nil =>
    intro vt pc S L pend Φ β κ s tm w hc hck h hrel hk hcnt
    simp only [compT, Option.some.injEq] at hc; subst hc
    simp only [chk, Bool.and_eq_true, List.all_eq_true, List.mem_range] at hck
    have hpend : pend = [] := by
      cases pend with
      | nil => rfl
      | cons q r => have := h.pin q (by simp); cases this
    subst hpend
    have hrd : Region.ready .any ops L = [] := by
      cases hr : Region.ready .any ops L with
      | nil => rfl
      | cons j r =>
        have hj : j ∈ Region.ready .any ops L := by rw [hr]; simp
        have h1 := h.unS hj
        rw [hck.2 j (by rw [← h.sS]; exact (getD_lt h1).1)] at h1; cases h1
    rw [keepX hX] at hrel
    have hq := hQ β κ s tm w hrel hk
    cases fuel with
    | zero => exact ⟨hrd, hq⟩
    | succ f => exact ⟨fun _ => hq, fun i hi => by rw [hrd] at hi; cases hi⟩
  | qu i r ih =>
    intro vt pc S L pend Φ β κ s tm w hc hck h hrel hk hcnt
    simp only [compT] at hc
    split at hc
    case h_2 => cases hc
    rename_i x vr hx hr
    simp only [Option.some.injEq] at hc; subst hc
    simp only [chk, Bool.and_eq_true, Bool.not_eq_true', Bool.or_eq_true, List.all_eq_true, List.mem_range] at hck
    obtain ⟨⟨⟨⟨⟨⟨_, hst⟩, hqu⟩, hT⟩, hfr⟩, hpu⟩, hckr⟩ := hck
    have hst' := hst
    simp only [stepOK, Bool.and_eq_true, Bool.not_eq_true', List.contains_eq_mem, decide_eq_false_iff_not] at hst'
    obtain ⟨⟨hrdy, hlz⟩, hap⟩ := hst'
    have hrL := h.rdy hrdy hlz
    obtain ⟨f, rfl, hcj⟩ := cnt_pos hrL hcnt
    obtain ⟨o, vo, ho, hvo, h1, _⟩ := step_soundM (X := { X with keep := pend.map Pnd.kp }) rfl hx hrel hk
    obtain ⟨vo', hvo', hqe, hpe⟩ := compOp_md hvo
    obtain ⟨s', v, hy, hr', hk'⟩ := h1 (by rw [← hqe]; simpa [opQuiet, ho, hvo'] using hqu)
    have hsel : ∀ (j : Nat) (o : Oper) cs b, ops[j]? = some o → o.op ≠ .select cs b := fun j o cs b ho => Region.noSelect_spec hns j o cs b ho
    have hunL : ∀ j, L.getD j true = false → S.getD j true = false := fun j hj => by
      obtain ⟨h1, h2⟩ := getD_lt hj
      refine getD_true_false (by rw [h.sS, ← h.sL]; exact h1) fun h3 => ?_
      rw [h.sub h3] at h2; cases h2
    refine wpAnyF_mono (Φ' := (Ctx.kp { X with keep := pend.map Pnd.kp }, w) :: Φ) (fun p hp => List.mem_cons_of_mem _ hp) (f + 1) L _ w ?_
    refine wpAnyF_first (pure := vo.pure) (p := (Ctx.kp { X with keep := pend.map Pnd.kp }, w)) ho hsel hQp (by simp) hT f L _ w h.cl ?_ ?_ hrL (.inr (KeptG.refl _ _)) (yields_puts (fun cs b => hsel i o cs b ho) pend (h.aparts hap ho) hy) ?_
    · rcases hpu with hpu | hpu
      · exact .inl (by rw [← hpe]; simpa [opPure, ho, hvo'] using hpu)
      · refine .inr fun j hj hTj => ?_
        have hSj := hunL j hj
        have hjo : j < ops.size := by rw [← h.sL]; exact (getD_lt hj).1
        rcases hpu j hjo with (h2 | h2) | h2
        · rw [hSj] at h2; cases h2
        · rw [hTj] at h2; cases h2
        · exact h2
    · exact fun j oj hoj hne hun hno => Region.free_spec ho hfr j oj hoj hne (hunL j hun) hno
    · rw [put_puts, put_tmps]
      · exact ihf f (by omega) r vr pc _ _ pend _ β κ s' _ w hr hckr (h.step hst ho v (Nat.le_refl _) fun p hp => by
          rcases List.mem_cons.1 hp with rfl | hp
          · exact ⟨Nat.le_refl _, fun q hq => .inl ⟨_, List.mem_map_of_mem hq, rfl⟩⟩
          · exact h.base p hp) hr' hk' hcj
      · intro p hp
        obtain ⟨oa, hd, hap'⟩ := h.aparts hap ho p hp
        exact (Oper.apart_spec hap').2.1 _ hd
  | op i r ih =>
    intro vt pc S L pend Φ β κ s tm w hc hck h hrel hk hcnt
    exact node (.op i r) vt pc S L pend Φ β κ s tm w (by simp [PT.heads]) hc hck h hrel hk hcnt
  | alt i l r ihl ihr =>
    intro vt pc S L pend Φ β κ s tm w hc hck h hrel hk hcnt
    exact node (.alt i l r) vt pc S L pend Φ β κ s tm w (by simp [PT.heads]) hc hck h hrel hk hcnt
  | pre k r ih =>
    intro vt pc S L pend Φ β κ s tm w hc hck h hrel hk hcnt
    simp only [compT] at hc
    split at hc
    case h_2 => cases hc
    rename_i d m v vr hs hr
    simp only [Option.some.injEq] at hc; subst hc
    simp only [chk, Bool.and_eq_true, List.all_eq_true, List.mem_range, Bool.or_eq_true, List.contains_eq_mem, decide_eq_true_eq, Bool.not_eq_true'] at hck
    obtain ⟨⟨_, hwt⟩, hckr⟩ := hck
    obtain ⟨h1, h2, hk'⟩ := hk
    refine ih vr (k :: pc) S L pend Φ β κ s tm w hr hckr { h with ask := fun i' k' hi hk'' => ?_ } hrel hk' hcnt
    by_cases hkk : k' = k
    · subst hkk
      refine ⟨⟨d, m, v, hs, ask_den hrel h1 h2⟩, fun j hj hl => ?_⟩
      have hjo : j < ops.size := by rw [← h.sS]; exact (getD_lt hj).1
      rcases hwt j hjo with (h3 | h3) | h3
      · rw [hj] at h3; cases h3
      · exact absurd h3 hl
      · exact h3
    · exact h.ask i' k' hi ((List.mem_cons.1 hk'').resolve_left hkk)
  | box i k r ih =>
    intro vt pc S L pend Φ β κ s tm w hc hck h hrel hk hcnt
    have hmem : (i, k) ∈ (PT.box i k r).pairs := List.mem_cons_self
    obtain ⟨d, z, t', ha, _, hst⟩ := pairsOK_spec hG _ (h.prG _ hmem)
    simp only at ha
    cases k with
    | some k =>
      obtain ⟨m, v, hs, hm, hwki, hvt⟩ := hst k rfl
      have hv : tmpIs v d = false := hvt _ (h.prG _ hmem) _ _ _ ha
      simp only [compT] at hc
      split at hc
      case h_2 => cases hc
      rename_i x y vr hx hy hr
      simp only [Option.some.injEq] at hc; subst hc
      obtain ⟨rfl, hdn⟩ := compStep_alloc ha hx
      obtain rfl := compStep_store hs hy
      obtain ⟨h1, h2, hk'⟩ := box_vc hm hv hk
      simp only [chk, Bool.and_eq_true, List.all_eq_true, List.mem_range, Bool.or_eq_true, List.contains_eq_mem, decide_eq_true_eq] at hck
      obtain ⟨⟨⟨⟨⟨_, hpre⟩, hri⟩, hrk⟩, hcov⟩, hckr⟩ := hck
      have hik : i ≠ k := lz_ne h.prN hmem
      have hSi : S.getD i false = false := h.nS i (mem_lz.2 ⟨_, hmem, .inl rfl⟩)
      have hSk : S.getD k false = false := h.nS k (mem_lz.2 ⟨_, hmem, .inr rfl⟩)
      have hio : i < ops.size := by obtain ⟨o, ho, _⟩ := allocOf_spec ha; exact (Array.getElem?_eq_some_iff.1 ho).1
      have hko : k < ops.size := by obtain ⟨o, _, _, ho, _⟩ := storeOf_spec hs; exact (Array.getElem?_eq_some_iff.1 ho).1
      by_cases hdone : L.getD k false = true
      · have hLi : L.getD i false = true := waits_listed h.cl hwki hdone
        obtain ⟨q, hq, hqk⟩ := ((h.eq k).1 hdone).resolve_left (by rw [hSk]; simp)
        have hqp : (q.i, q.k) = (i, some k) := lz_inj h.prN (h.pin q hq) hmem (hqk.imp id (·.2)) (.inr rfl)
        simp only [Prod.mk.injEq] at hqp
        have hqst : q.st = true := by
          rcases hqk with h3 | h3
          · exact absurd (hqp.1.symm.trans h3) hik
          · exact h3.1
        obtain ⟨k2, m2, v2, hk2, hs2, hqc⟩ := h.pst q hq hqst
        rw [hqp.2] at hk2
        simp only [Option.some.injEq] at hk2
        subst hk2
        rw [hs] at hs2
        simp only [Option.some.injEq, Prod.mk.injEq] at hs2
        obtain ⟨rfl, rfl, rfl⟩ := hs2
        obtain ⟨β', κ', tm', pend', hinv, hrel', hputs⟩ := box_gen (X := X) (S' := (S.setIfInBounds i true).setIfInBounds k true) hG h hrel hq hqp.1 (by simp) (fun j => by
            by_cases hkj : k = j
            · subst hkj
              simp only [getD_set_self (show k < (S.setIfInBounds i true).size by simp [h.sS, hko]), or_true]
            · rw [getD_set_ne false hkj]
              by_cases hij : i = j
              · subst hij
                simp only [getD_set_self (show i < S.size by rw [h.sS]; exact hio), true_or, or_true]
              · rw [getD_set_ne false hij]
                simp [hkj, hij]) hLi (fun j hj => by simp only [Option.some.injEq] at hj; subst hj; exact hdone) hdn (cs := cellsOf (s.ev v)) (cellsOf_ok (hrel.evOk v)) (by
            rw [hqc, hrel.eval [] v, cells_den])
        rw [← hputs]
        exact ih vr pc _ L pend' Φ β' κ' _ tm' w hr hckr hinv hrel' hk' hcnt
      · have hr0 : ∃ j0, j0 ∈ Region.ready .any ops L := by
          by_cases hLi : L.getD i false = true
          · refine ⟨k, ?_⟩
            have h3 : k ∈ Region.ready .any ops (S.setIfInBounds i true) := by simpa [Vc.rdy] using hrk
            obtain ⟨_, o, ho, h4⟩ := mem_ready.1 h3
            refine mem_ready.2 ⟨getD_true_false (by rw [h.sL]; exact hko) hdone, o, ho, fun e he hb => ?_⟩
            have h5 := h4 e he hb
            by_cases hie : i = e.on
            · rw [← hie]; exact hLi
            · rw [getD_set_ne false hie] at h5; exact h.sub h5
          · refine ⟨i, ?_⟩
            have h3 : i ∈ Region.ready .any ops S := by simpa [Vc.rdy] using hri
            obtain ⟨_, o, ho, h4⟩ := mem_ready.1 h3
            exact mem_ready.2 ⟨getD_true_false (by rw [h.sL]; exact hio) hLi, o, ho, fun e he hb => h.sub (h4 e he hb)⟩
        obtain ⟨j0, hj0⟩ := hr0
        obtain ⟨f, rfl, _⟩ := cnt_pos hj0 hcnt
        refine ⟨fun e => (by rw [e] at hj0; cases hj0), fun j hj => ?_⟩
        obtain ⟨f', hf', hcj⟩ := cnt_pos hj hcnt
        obtain rfl : f = f' := by omega
        by_cases hl : j ∈ lz (PT.box i (some k) r).pairs
        · refine lazy_sound hG h hrel hj hl (fun i' hi => ?_) fun pend' w' hinv hrel' hkk =>
            ⟨fun _ => hkk, ihf f (by omega) (.box i (some k) r) _ pc S _ pend' Φ β κ s tm w' (by simp only [compT, hx, hy, hr]) (by
              simp only [chk, Bool.and_eq_true, List.all_eq_true, List.mem_range, Bool.or_eq_true, List.contains_eq_mem, decide_eq_true_eq]
              exact ⟨⟨⟨⟨⟨by assumption, hpre⟩, hri⟩, hrk⟩, hcov⟩, hckr⟩) hinv hrel' hk hcj⟩
          have hjp := h.asked hpre hj hi
          by_cases hjk : j = k
          · subst hjk
            exact ⟨d, m, v, hs, ask_den hrel h1 h2⟩
          · exact (h.ask i' j hi ((List.mem_cons.1 hjp).resolve_left hjk)).1
        · exfalso
          have hSj := h.unS hj
          have hjo : j < ops.size := by rw [← h.sS]; exact (getD_lt hSj).1
          rcases hcov j hjo with (h3 | h3) | h3
          · rw [hSj] at h3; cases h3
          · exact hl h3
          · refine waitsOut_ready h3 hj fun e he => ?_
            rcases h.ok he with h4 | h4
            · simp [h4]
            · have hek : e ≠ k := fun e' => hdone (by rw [← e']; exact he)
              have hwk : waits .any ops e k = false := by
                cases hw : waits .any ops e k with
                | false => rfl
                | true => exact absurd (waits_listed h.cl hw he) hdone
              have h4' : e ∈ lz ((i, some k) :: r.pairs) := h4
              simp [h4', hek, hwk]
    | none =>
      simp only [compT] at hc
      split at hc
      case h_2 => cases hc
      rename_i x vr hx hr
      simp only [Option.some.injEq] at hc; subst hc
      obtain ⟨rfl, hdn⟩ := compStep_alloc ha hx
      simp only [chk, Bool.and_eq_true, List.all_eq_true, List.mem_range, Bool.or_eq_true, List.contains_eq_mem, decide_eq_true_eq] at hck
      obtain ⟨⟨⟨⟨_, hpre⟩, hri⟩, hcov⟩, hckr⟩ := hck
      have hSi : S.getD i false = false := h.nS i (mem_lz.2 ⟨_, hmem, .inl rfl⟩)
      have hio : i < ops.size := by obtain ⟨o, ho, _⟩ := allocOf_spec ha; exact (Array.getElem?_eq_some_iff.1 ho).1
      by_cases hdone : L.getD i false = true
      · obtain ⟨q, hq, hqk⟩ := ((h.eq i).1 hdone).resolve_left (by rw [hSi]; simp)
        have hqp : (q.i, q.k) = (i, none) := lz_inj h.prN (h.pin q hq) hmem (hqk.imp id (·.2)) (.inl rfl)
        simp only [Prod.mk.injEq] at hqp
        have hqst : q.st = false := by
          cases hst' : q.st with
          | false => rfl
          | true =>
            obtain ⟨k2, _, _, hk2, _⟩ := h.pst q hq hst'
            rw [hqp.2] at hk2; cases hk2
        obtain ⟨z2, hz2, hqc⟩ := h.pal q hq
        rw [hqp.1, ha] at hz2
        simp only [Option.some.injEq, Prod.mk.injEq] at hz2
        obtain ⟨rfl, rfl, rfl⟩ := hz2
        have hqc := hqc hqst
        obtain ⟨β', κ', tm', pend', hinv, hrel', hputs⟩ := box_gen (X := X) (S' := S.setIfInBounds i true) hG h hrel hq hqp.1 (by simp) (fun j => by
            by_cases hij : i = j
            · subst hij
              simp only [getD_set_self (show i < S.size by rw [h.sS]; exact hio), true_or, or_true]
            · rw [getD_set_ne false hij]
              simp [hij]) hdone (fun j hj => by cases hj) hdn (cs := z.map .val) (fun x hx => by obtain ⟨_, _, rfl⟩ := List.mem_map.1 hx; rfl) (by
            rw [hqc, List.map_map]; congr 1; simp [Function.comp_def, den])
        rw [← hputs]
        exact ih vr pc _ L pend' Φ β' κ' _ tm' w hr hckr hinv hrel' hk hcnt
      · have hj0 : i ∈ Region.ready .any ops L := by
          have h3 : i ∈ Region.ready .any ops S := by simpa [Vc.rdy] using hri
          obtain ⟨_, o, ho, h4⟩ := mem_ready.1 h3
          exact mem_ready.2 ⟨getD_true_false (by rw [h.sL]; exact hio) hdone, o, ho, fun e he hb => h.sub (h4 e he hb)⟩
        obtain ⟨f, rfl, _⟩ := cnt_pos hj0 hcnt
        refine ⟨fun e => (by rw [e] at hj0; cases hj0), fun j hj => ?_⟩
        obtain ⟨f', hf', hcj⟩ := cnt_pos hj hcnt
        obtain rfl : f = f' := by omega
        by_cases hl : j ∈ lz (PT.box i none r).pairs
        · refine lazy_sound hG h hrel hj hl (fun i' hi => (h.ask i' j hi (h.asked hpre hj hi)).1) fun pend' w' hinv hrel' hkk =>
            ⟨fun _ => hkk, ihf f (by omega) (.box i none r) _ pc S _ pend' Φ β κ s tm w' (by simp only [compT, hx, hr]) (by
              simp only [chk, Bool.and_eq_true, List.all_eq_true, List.mem_range, Bool.or_eq_true, List.contains_eq_mem, decide_eq_true_eq]
              exact ⟨⟨⟨⟨by assumption, hpre⟩, hri⟩, hcov⟩, hckr⟩) hinv hrel' hk hcj⟩
        · exfalso
          have hSj := h.unS hj
          have hjo : j < ops.size := by rw [← h.sS]; exact (getD_lt hSj).1
          rcases hcov j hjo with (h3 | h3) | h3
          · rw [hSj] at h3; cases h3
          · exact hl h3
          · refine waitsOut_ready h3 hj fun e he => ?_
            rcases h.ok he with h4 | h4
            · simp [h4]
            · have hek : e ≠ i := fun e' => hdone (by rw [← e']; exact he)
              have hwk : waits .any ops e i = false := by
                cases hw : waits .any ops e i with
                | false => rfl
                | true => exact absurd (waits_listed h.cl hw he) hdone
              have h4' : e ∈ lz ((i, none) :: r.pairs) := h4
              simp [h4', hek, hwk]

theorem lin_sound {pg : PG} {K : St → Prop} : ∀ (t : VT) (l : List VStep) (s : St), t.lin = some l → vcSteps pg l s K → vcVT pg t s K
  | .nil, l, s, h, hk => by
    simp only [VT.lin, Option.some.injEq] at h; subst h; exact hk
  | .step x r, l, s, h, hk => by
    simp only [VT.lin] at h
    obtain ⟨l', hl, rfl⟩ := Option.map_eq_some_iff.1 h
    have ih := fun s => lin_sound r l' s hl (K := K) (pg := pg)
    obtain ⟨d, g, o⟩ := x
    cases g with
    | none =>
      simp only [vcVT, vcSteps] at hk ⊢
      exact vcOp_mono (fun v s' hh => ih _ hh) hk
    | some tb =>
      obtain ⟨t, b⟩ := tb
      simp only [vcVT, vcSteps] at hk ⊢
      split
      · rename_i c hc
        simp only [hc] at hk
        exact ⟨fun e => vcOp_mono (fun v s' hh => ih _ hh) (hk.1 e), fun e => ih _ (hk.2 e)⟩
      · rename_i hc
        split at hk
        · rename_i c hc'
          exact absurd hc' (hc c)
        · exact ih _ hk
  | .pre .., l, s, h, hk => by simp [VT.lin] at h
  | .alt .., l, s, h, hk => by simp [VT.lin] at h
end
end Go.Proofs.YtcjdbfnnbejmeaaGreat.Vc
