import Derived.Test.YtojckjngjfgfdaaGreatDa
import Derived.Test.YtojckjngjfgfdaaGreatSu
namespace Go.Proofs.YtojckjngjfgfdaaGreat
set_option linter.unusedSimpArgs false
set_option linter.unusedVariables false
open Go.Proofs.YtojckjngjfgfdaaGreat.Vc
/-! ### Package device: New, with, stamp, valid -/
/-- A device, as it lies. -/
def dvCells (d : Dv) (v : Value) : List Value := [.int .i64 d.id, .int .i64 d.epoch, .int .i64 d.next, v]
/-- What a function hands back that may fail. -/
def DvR (R : RO) (r : Value) : Except Int Dv → Prop
  | .error k => r = .tuple #[.agg #[.int .i64 0, .int .i64 0, .int .i64 0, .slice none 0 0], .int .i64 k]
  | .ok d => ∃ v, r = .tuple #[.agg (dvCells d v).toArray, .int .i64 0] ∧ EdsV R v d.edits
theorem DvR.mono {R R' : RO} {r : Value} {x : Except Int Dv} (h : DvR R r x) (hle : RO.le R R') : DvR R' r x := by
  cases x with
  | error k => exact h
  | ok d => obtain ⟨v, e, h⟩ := h; exact ⟨v, e, h.mono hle⟩
theorem dNew (id : Int) (R : RO) : CallsR Tryz.prog 15 [.int .i64 id] R fun R' r => DvR R' r (dvNew id) := by
  refine callsT mix Tryz.func15 comp15 (by simp [Tryz.ntmps15]) ?_; simp only [go_sem, ↓reduceIte, Nat.reduceEqDiff, Nat.reduceAdd, Nat.reduceMul, Nat.reduceLeDiff, Nat.reduceLT, Nat.reduceBNe, reduceCtorEq, vc15, rs15]
  unfold dvNew
  refine ⟨fun h => ⟨fun h2 => ?_, fun h2 => ?_⟩, fun h => ?_⟩
  · rw [if_neg (by omega)]; exact rfl
  · rw [if_pos (by omega)]; exact ⟨_, rfl, EdsV.nil _⟩
  · rw [if_neg (by omega)]; exact rfl
theorem dStamp (d : Dv) (v : Value) (e : Ed) (hv : v.oneCell' = true) (hb : 0 ≤ d.epoch ∧ d.epoch ≤ 63 ∧ 1 ≤ d.next ∧ d.next ≤ 17179869184) (R : RO) :
    CallsR Tryz.prog 55 [.agg (dvCells d v).toArray, e.val] R fun _ r => r = (Ed.val { e with device := d.id, seq := 64 * d.next + d.epoch }) := by
  simp only [dvCells, Ed.val]
  refine callsT mix Tryz.func55 comp55 (by simp [Tryz.ntmps55]) ?_; simp only [go_sem, ↓reduceIte, Nat.reduceEqDiff, Nat.reduceAdd, Nat.reduceMul, Nat.reduceLeDiff, Nat.reduceLT, Nat.reduceBNe, reduceCtorEq, vc55, rs55]
  exact ⟨_, W.in64 (by omega), _, W.in64 (by omega), rfl⟩
theorem dWith (d : Dv) (old v : Value) (ds : List De) (R : RO) (ho : old.oneCell' = true) (h : EdsV R v ds) :
    CallsR Tryz.prog 56 [.agg (dvCells d old).toArray, v] R fun R' r => ∃ v', r = .agg (dvCells d v').toArray ∧ EdsV R' v' ds := by
  have hdl : ds.length ≤ 1000000000 := by obtain ⟨_, _, _, _, h⟩ := h; exact h
  obtain ⟨a, cap, rfl, hc, hf⟩ := PlOK.of h
  simp only [dvCells]
  refine callsT mix Tryz.func56 comp56 (by simp [Tryz.ntmps56]) ?_; simp only [go_sem, ↓reduceIte, Nat.reduceEqDiff, Nat.reduceAdd, Nat.reduceMul, Nat.reduceLeDiff, Nat.reduceLT, Nat.reduceBNe, reduceCtorEq, vc56, rs56]
  refine ⟨by omega, by omega, ?_⟩
  refine vcLoopR (Nat × List Pl) (fun x => [(14, .val (.int .i64 x.1)), (13, .val (.int .i64 ds.length)), (12, .val (.slice a ds.length cap)), (2, .loc 0 0), (4, .loc 1 0)])
    (fun x => [.box [.val (.int .i64 d.id), .val (.int .i64 d.epoch), .val (.int .i64 d.next), .sl 2 x.2.length], .box [.val (.int .i64 0), .val (.int .i64 0), .val (.int .i64 0), .val (.slice none 0 0)], .row 31 13 (rowP x.2)])
    (fun x R => x.1 ≤ ds.length ∧ x.2.map (·.1) = ds.take x.1 ∧ ∀ p ∈ x.2, PlOK R p) (fun x => ds.length - x.1) (0, []) [] ?_ ?_ ?_ ?_
  · (try simp only [go_sem, ↓reduceIte, Nat.reduceEqDiff, Nat.reduceAdd, Nat.reduceMul, Nat.reduceLeDiff, Nat.reduceLT, Nat.reduceBNe, reduceCtorEq]) <;> (repeat' (first | rfl | trivial | constructor | (intro h; exact absurd rfl h)))
  · try simp only [go_sem, ↓reduceIte, Nat.reduceEqDiff, Nat.reduceAdd, Nat.reduceMul, Nat.reduceLeDiff, Nat.reduceLT, Nat.reduceBNe, reduceCtorEq]
  · exact ⟨Nat.zero_le _, rfl, by simp⟩
  rintro ⟨i, ps⟩ env R1 hle1 hE ⟨hi, hps, hpo⟩
  (simp only [go_sem] at hE; obtain ⟨e14, e13, e12, e2, e4⟩ := hE; simp only [go_sem, ↓reduceIte, Nat.reduceEqDiff, Nat.reduceAdd, Nat.reduceMul, Nat.reduceLeDiff, Nat.reduceLT, Nat.reduceBNe, reduceCtorEq, e14, e13, e12, e2, e4]; dsimp only at *)
  have hpl : ps.length = i := by have := congrArg List.length hps; simp at this; omega
  refine ⟨fun hlt => ⟨hlt, ?_⟩, fun hge => ?_⟩
  · have hlt' : i < ds.length := by omega
    obtain ⟨ad, p, had, hp1, hR, hpok⟩ := hf i hlt'
    have hcells : ∀ j u, (p.ed.cells)[j]? = some u → R1 ((ad.add (i * 13)).add j) u := fun j u hj => hle1 _ _ (hR j u hj)
    refine vat ad had ?_
    try simp only [go_sem, ↓reduceIte, Nat.reduceEqDiff, Nat.reduceAdd, Nat.reduceMul, Nat.reduceLeDiff, Nat.reduceLT, Nat.reduceBNe, reduceCtorEq]
    refine vloadn p.ed.cells rfl hcells ?_
    simp only [go_sem, ↓reduceIte, Nat.reduceEqDiff, Nat.reduceAdd, Nat.reduceMul, Nat.reduceLeDiff, Nat.reduceLT, Nat.reduceBNe, reduceCtorEq, Ed.cells, Pl.ed, De.ed, e14, e13, e12, e2, e4]
    have hC := dClone p.1 p.2.1 p.2.2.1 p.2.2.2 R1 (hpok.mono hle1)
    simp only [Ed.cells, De.ed] at hC
    refine vcall hC ?_
    rintro R2 v hle2 ⟨ra, rn, rc, rfl, hrv⟩
    simp only [go_sem, ↓reduceIte, Nat.reduceEqDiff, Nat.reduceAdd, Nat.reduceMul, Nat.reduceLeDiff, Nat.reduceLT, Nat.reduceBNe, reduceCtorEq, e14, e13, e12, e2, e4]
    refine vappO (rowP ps) rfl (by rw [rowP_len]) (by omega) ?_
    simp only [go_sem, ↓reduceIte, Nat.reduceEqDiff, Nat.reduceAdd, Nat.reduceMul, Nat.reduceLeDiff, Nat.reduceLT, Nat.reduceBNe, reduceCtorEq, e14, e13, e12, e2, e4]
    refine ⟨_, W.in64 (by omega), (i + 1, ps ++ [(p.1, ra, rn, rc)]), [0, 1, 5], ?_⟩
    try simp only [go_sem, ↓reduceIte, Nat.reduceEqDiff, Nat.reduceAdd, Nat.reduceMul, Nat.reduceLeDiff, Nat.reduceLT, Nat.reduceBNe, reduceCtorEq]
    refine ⟨by omega, ⟨rfl, by rw [rowP_snoc]; rfl⟩, by decide, by omega, ?_, fun q hq => ?_⟩
    · rw [List.map_append, hps, List.take_succ_eq_append_getElem hlt', ← hp1]; rfl
    · rcases List.mem_append.1 hq with hq | hq
      · exact (hpo q hq).mono hle2
      · simp only [List.mem_cons, List.not_mem_nil, or_false] at hq; subst hq; exact hrv
  · obtain rfl : i = ds.length := by omega
    intro b cap' R2 hle2 hrow hcap hfr
    try simp only [go_sem, ↓reduceIte, Nat.reduceEqDiff, Nat.reduceAdd, Nat.reduceMul, Nat.reduceLeDiff, Nat.reduceLT, Nat.reduceBNe, reduceCtorEq, e2, e4]
    rw [List.take_length] at hps
    refine ⟨_, rfl, ?_⟩
    rw [← hps]
    exact EdsV.row hrow hcap (fun p hp => (hpo p hp).mono hle2) (by omega)
end Go.Proofs.YtojckjngjfgfdaaGreat
namespace Go.Proofs.YtojckjngjfgfdaaGreat
set_option linter.unusedSimpArgs false
set_option linter.unusedVariables false
open Go.Proofs.YtojckjngjfgfdaaGreat.Vc
/-! ### Package device: valid -/
theorem validD_seq {d : De} (h : validD d = true) : 1 ≤ d.seq ∧ d.seq ≤ 1099511627776 := by
  unfold validD validE betw at h
  simp only [Bool.and_eq_true, decide_eq_true_eq] at h
  exact h.1.1.2
theorem okEd_iff (n : Int) (e : De) : okEd n e = true ↔ validD e = true ∧ e.seq / 64 < n := by simp [okEd]
theorem cmpE_geq (a b : De) (ra rb : Option Addr) (rn rc rn' rc' : Nat) : (0 ≤ cmpE (a.ed ra rn rc) (b.ed rb rn' rc')) ↔ ¬ lessD a b = true := by
  have := cmpE_neg (a.ed ra rn rc) (b.ed rb rn' rc')
  rw [lessD_iff]
  simp only [De.ed] at this ⊢
  rw [← this]
  omega
theorem dValid (d : Dv) (v : Value) (R : RO) (h : EdsV R v d.edits) : CallsR Tryz.prog 52 [.agg (dvCells d v).toArray] R fun _ r => r = .bool (validV d) := by
  have hdl : d.edits.length ≤ 1000000000 := by obtain ⟨_, _, _, _, h⟩ := h; exact h
  obtain ⟨a, cap, rfl, hc, hf⟩ := PlOK.of h
  simp only [dvCells]
  refine callsT mix Tryz.func52 comp52 (by simp [Tryz.ntmps52]) ?_; simp only [go_sem, ↓reduceIte, Nat.reduceEqDiff, Nat.reduceAdd, Nat.reduceMul, Nat.reduceLeDiff, Nat.reduceLT, Nat.reduceBNe, reduceCtorEq, vc52, rs52]
  have hhdr : validV d = true → 0 ≤ d.id ∧ d.id ≤ 15 ∧ 0 ≤ d.epoch ∧ d.epoch ≤ 63 ∧ 1 ≤ d.next ∧ d.next ≤ 17179869184 ∧ d.edits.length ≤ 4096 := fun hT => by
    unfold validV hdrOK at hT
    simp only [Bool.and_eq_true, decide_eq_true_eq] at hT
    exact hT.1.1
  have hbad : ¬ (0 ≤ d.id ∧ d.id ≤ 15 ∧ 0 ≤ d.epoch ∧ d.epoch ≤ 63 ∧ 1 ≤ d.next ∧ d.next ≤ 17179869184 ∧ d.edits.length ≤ 4096) → Value.bool false = Value.bool (validV d) := fun hn => by
    cases hv : validV d with
    | false => rfl
    | true => exact absurd (hhdr hv) hn
  refine ⟨fun q1 => ⟨fun q2 => ⟨fun q3 => ⟨fun q4 => ⟨fun q5 => ⟨fun q6 => ⟨fun q7 => hbad (by omega), fun q7 => ?_⟩, fun q6 => hbad (by omega)⟩, fun q5 => hbad (by omega)⟩, fun q4 => hbad (by omega)⟩, fun q3 => hbad (by omega)⟩, fun q2 => hbad (by omega)⟩, fun q1 => hbad (by omega)⟩
  have hall : ∀ (i : Nat) (hi : i < d.edits.length), ¬ (okEd d.next d.edits[i] = true) → Value.bool false = Value.bool (validV d) := fun i hi hn => by
    cases hv : validV d with
    | false => rfl
    | true =>
      unfold validV at hv
      simp only [Bool.and_eq_true, decide_eq_true_eq, List.all_eq_true] at hv
      exact absurd (hv.1.2 _ (List.getElem_mem hi)) hn
  have hsrt : ∀ (i : Nat) (hi : i < d.edits.length), 0 < i → ¬ lessD (d.edits[i - 1]'(by omega)) d.edits[i] = true → Value.bool false = Value.bool (validV d) := fun i hi h0 hn => by
    cases hv : validV d with
    | false => rfl
    | true =>
      unfold validV at hv
      simp only [Bool.and_eq_true, decide_eq_true_eq] at hv
      exact absurd (List.pairwise_iff_getElem.1 hv.2 (i - 1) i (by omega) hi (by omega)) hn
  clear hbad hhdr
  refine vcLoop Nat (fun i => [(50, .val (.int .i64 i)), (49, .val (.int .i64 d.edits.length)), (48, .val (.slice a d.edits.length cap)), (1, .loc 0 0)])
    (fun _ => [.box [.val (.int .i64 d.id), .val (.int .i64 d.epoch), .val (.int .i64 d.next), .val (.slice a d.edits.length cap)]])
    (fun i _ => i ≤ d.edits.length ∧ (∀ e ∈ d.edits.take i, okEd d.next e = true) ∧ SortedD (d.edits.take i)) (fun i => d.edits.length - i) 0 ?_ ?_ ?_ ?_
  · (try simp only [go_sem, ↓reduceIte, Nat.reduceEqDiff, Nat.reduceAdd, Nat.reduceMul, Nat.reduceLeDiff, Nat.reduceLT, Nat.reduceBNe, reduceCtorEq]) <;> (repeat' (first | rfl | trivial | constructor | (intro h; exact absurd rfl h)))
  · try simp only [go_sem, ↓reduceIte, Nat.reduceEqDiff, Nat.reduceAdd, Nat.reduceMul, Nat.reduceLeDiff, Nat.reduceLT, Nat.reduceBNe, reduceCtorEq]
  · exact ⟨Nat.zero_le _, by simp, List.Pairwise.nil⟩
  rintro i env R1 hle1 hE ⟨hi, hok, hso⟩
  (simp only [go_sem] at hE; obtain ⟨e50, e49, e48, e1⟩ := hE; simp only [go_sem, ↓reduceIte, Nat.reduceEqDiff, Nat.reduceAdd, Nat.reduceMul, Nat.reduceLeDiff, Nat.reduceLT, Nat.reduceBNe, reduceCtorEq, e50, e49, e48, e1]; dsimp only at *)
  refine ⟨fun hlt => ⟨hlt, ?_⟩, fun hge => ?_⟩
  · have hlt' : i < d.edits.length := by omega
    obtain ⟨ad, p, had, hp1, hR, hpok⟩ := hf i hlt'
    have hcells : ∀ j u, (p.ed.cells)[j]? = some u → R1 ((ad.add (i * 13)).add j) u := fun j u hj => hle1 _ _ (hR j u hj)
    have htk := List.take_succ_eq_append_getElem hlt'
    have hA := hall i hlt'
    rw [← hp1] at htk hA
    refine vat ad had ?_
    try simp only [go_sem, ↓reduceIte, Nat.reduceEqDiff, Nat.reduceAdd, Nat.reduceMul, Nat.reduceLeDiff, Nat.reduceLT, Nat.reduceBNe, reduceCtorEq]
    refine vloadn p.ed.cells rfl hcells ?_
    simp only [go_sem, ↓reduceIte, Nat.reduceEqDiff, Nat.reduceAdd, Nat.reduceMul, Nat.reduceLeDiff, Nat.reduceLT, Nat.reduceBNe, reduceCtorEq, Ed.cells, Pl.ed, De.ed, e50, e49, e48, e1]
    refine vcall (eValid p.ed R1) ?_
    rintro R2 v hle2 rfl
    rw [validE_ed p hpok.len]
    simp only [go_sem, ↓reduceIte, Nat.reduceEqDiff, Nat.reduceAdd, Nat.reduceMul, Nat.reduceLeDiff, Nat.reduceLT, Nat.reduceBNe, reduceCtorEq, e50, e49, e48, e1]
    refine ⟨fun hv => ⟨by omega, ?_⟩, fun hv => hA (by rw [okEd_iff]; simp [hv])⟩
    have hsq := validD_seq hv
    have htd : p.1.seq.tdiv 64 = p.1.seq / 64 := tdiv_nonneg' (by omega) (by omega)
    refine ⟨_, W.in64 (by rw [htd]; omega), ?_⟩
    rw [htd]
    have hnew : ∀ R', RO.le R1 R' → p.1.seq / 64 < d.next → (0 < i → lessD (d.edits[i - 1]'(by omega)) p.1 = true) → (∀ e ∈ d.edits.take (i + 1), okEd d.next e = true) ∧ SortedD (d.edits.take (i + 1)) := fun R' _ hn hl => by
      rw [htk]
      refine ⟨fun e he => ?_, List.pairwise_append.2 ⟨hso, List.pairwise_singleton _ _, fun x hx y hy => ?_⟩⟩
      · rcases List.mem_append.1 he with he | he
        · exact hok e he
        · simp only [List.mem_cons, List.not_mem_nil, or_false] at he; subst he
          rw [okEd_iff]; exact ⟨hv, hn⟩
      · simp only [List.mem_cons, List.not_mem_nil, or_false] at hy; subst hy
        obtain ⟨j, hj, rfl⟩ := List.mem_take_iff_getElem.1 hx
        by_cases hji : j = i - 1
        · subst hji; exact hl (by omega)
        · have h1 := List.pairwise_iff_getElem.1 hso j (i - 1) (by simp; omega) (by simp; omega) (by omega)
          rw [List.getElem_take, List.getElem_take] at h1
          exact lessD_trans h1 (hl (by omega))
    refine ⟨fun hn => ⟨fun hpos => ?_, fun hz => ?_⟩, fun hn => hA (by rw [okEd_iff]; omega)⟩
    · obtain ⟨ad', q, had', hq1, hR', hqok⟩ := hf (i - 1) (by omega)
      have hti : ((i : Int) - 1).toNat = i - 1 := by omega
      have hS := hsrt i hlt' (by omega)
      rw [← hp1, ← hq1] at hS
      refine ⟨_, W.in64 (by omega), by omega, by omega, ?_⟩
      rw [hti]
      refine vat ad' had' ?_
      try simp only [go_sem, ↓reduceIte, Nat.reduceEqDiff, Nat.reduceAdd, Nat.reduceMul, Nat.reduceLeDiff, Nat.reduceLT, Nat.reduceBNe, reduceCtorEq]
      refine vloadn q.ed.cells rfl (fun j u hj => hle2 _ _ (hle1 _ _ (hR' j u hj))) ?_
      simp only [go_sem, ↓reduceIte, Nat.reduceEqDiff, Nat.reduceAdd, Nat.reduceMul, Nat.reduceLeDiff, Nat.reduceLT, Nat.reduceBNe, reduceCtorEq, Ed.cells, Pl.ed, De.ed, e50, e49, e48, e1]
      refine vcall (dOrder q.ed p.ed R2) ?_
      rintro R3 v hle3 rfl
      simp only [go_sem, ↓reduceIte, Nat.reduceEqDiff, Nat.reduceAdd, Nat.reduceMul, Nat.reduceLeDiff, Nat.reduceLT, Nat.reduceBNe, reduceCtorEq, e50, e49, e48, e1]
      have hcg : (0 ≤ cmpE q.ed p.ed) ↔ ¬ lessD q.1 p.1 = true := cmpE_geq _ _ _ _ _ _ _ _
      refine ⟨fun h0 => hS (hcg.1 h0), fun h0 => ?_⟩
      have hl : lessD q.1 p.1 = true := by
        cases hq : lessD q.1 p.1 with
        | true => rfl
        | false => exact absurd (hcg.2 (by rw [hq]; simp)) h0
      refine ⟨_, W.in64 (by omega), i + 1, by omega, by constructor, by omega, ?_⟩
      exact hnew R3 (RO.le_trans hle2 hle3) (by omega) (fun _ => by rw [← hq1]; exact hl)
    · obtain rfl : i = 0 := by omega
      refine ⟨_, W.in64 (by omega), 1, by omega, by constructor, by omega, ?_⟩
      exact hnew R2 hle2 (by omega) (fun h => absurd h (by omega))
  · obtain rfl : i = d.edits.length := by omega
    rw [List.take_length] at hok hso
    have : validV d = true := by
      unfold validV hdrOK
      simp only [Bool.and_eq_true, decide_eq_true_eq, List.all_eq_true]
      exact ⟨⟨by omega, hok⟩, hso⟩
    rw [this]
end Go.Proofs.YtojckjngjfgfdaaGreat
namespace Go.Proofs.YtojckjngjfgfdaaGreat
set_option linter.unusedSimpArgs false
set_option linter.unusedVariables false
open Go.Proofs.YtojckjngjfgfdaaGreat.Vc
/-! ### Package device: Add, Restore -/
theorem EdsV.one {R : RO} {v : Value} {ds : List De} (h : EdsV R v ds) : v.oneCell' = true := by
  obtain ⟨_, _, rfl, _⟩ := h.form
  rfl
theorem validV_hdr {d : Dv} (h : validV d = true) : 0 ≤ d.id ∧ d.id ≤ 15 ∧ 0 ≤ d.epoch ∧ d.epoch ≤ 63 ∧ 1 ≤ d.next ∧ d.next ≤ 17179869184 ∧ d.edits.length ≤ 4096 := by
  unfold validV hdrOK at h
  simp only [Bool.and_eq_true, decide_eq_true_eq] at h
  exact h.1.1
theorem dAdd (d : Dv) (v : Value) (e : De) (ra : Option Addr) (rn rc : Nat) (R : RO) (h : EdsV R v d.edits) (he : RuleV R (.slice ra rn rc) e.rule) :
    CallsR Tryz.prog 17 [.agg (dvCells d v).toArray, .agg ((e.ed ra rn rc).cells).toArray] R fun R' r => DvR R' r (dvAdd d e) := by
  have hV := dValid d v
  have h0 := h
  have hrn := he.len
  subst hrn
  have hCl := dCloneEdits d.edits v
  have hSt := dStamp d v
  have hdl : d.edits.length ≤ 1000000000 := by obtain ⟨_, _, _, _, h⟩ := h; exact h
  obtain ⟨a, cap, rfl, hc, hf⟩ := h.form
  simp only [dvCells] at hV hSt ⊢
  simp only [Ed.cells, De.ed]
  refine callsT mix Tryz.func17 comp17 (by simp [Tryz.ntmps17]) ?_; simp only [go_sem, ↓reduceIte, Nat.reduceEqDiff, Nat.reduceAdd, Nat.reduceMul, Nat.reduceLeDiff, Nat.reduceLT, Nat.reduceBNe, reduceCtorEq, vc17, rs17]
  refine vcall (hV R h0) ?_
  rintro R1 r hle1 rfl
  try simp only [go_sem, ↓reduceIte, Nat.reduceEqDiff, Nat.reduceAdd, Nat.reduceMul, Nat.reduceLeDiff, Nat.reduceLT, Nat.reduceBNe, reduceCtorEq]
  unfold dvAdd
  refine ⟨fun hv => ?_, fun hv => ?_⟩
  · refine vcall (eValid ⟨e.kind, e.day, 0, 1, e.mv, e.minute, e.length, ra, e.rule.length, rc, e.zone⟩ R1) ?_
    rintro R2 r hle2 rfl
    rw [show validE ⟨e.kind, e.day, 0, 1, e.mv, e.minute, e.length, ra, e.rule.length, rc, e.zone⟩ = validD (bareD e) from validE_ed (bareD e, ra, e.rule.length, rc) rfl]
    try simp only [go_sem, ↓reduceIte, Nat.reduceEqDiff, Nat.reduceAdd, Nat.reduceMul, Nat.reduceLeDiff, Nat.reduceLT, Nat.reduceBNe, reduceCtorEq]
    refine ⟨fun hb => ?_, fun hb => ⟨fun hl => ⟨fun hn => ?_, fun hn => ?_⟩, fun hl => ?_⟩⟩
    · rw [if_neg (by rw [hb]; simp)]
      exact rfl
    · rw [if_pos ⟨hv, hb⟩, if_pos (.inr hn)]
      exact rfl
    · have hh := validV_hdr hv
      rw [if_pos ⟨hv, hb⟩, if_neg (by omega)]
      refine vhandE (hCl R2 ((h0.mono hle1).mono hle2)) rfl ?_
      rintro R3 bs r hle3 ⟨ps, hps, hpo, hbs⟩
      have hpl : ps.length = d.edits.length := by rw [← hps]; simp
      have hfin : ∀ R' w, RO.le R3 R' → EdsV R' w (d.edits ++ [stampD d e]) → DvR R' (.tuple #[.agg #[.int .i64 d.id, .int .i64 d.epoch, .int .i64 (d.next + 1), w], .int .i64 0]) (.ok ⟨d.id, d.epoch, d.next + 1, d.edits ++ [stampD d e]⟩) := fun R' w _ hw => ⟨w, rfl, hw⟩
      have hW := fun R' old w ds ho hw => dWith ⟨d.id, d.epoch, d.next + 1, []⟩ old w ds R' ho hw
      simp only [dvCells] at hW
      obtain ⟨q, hq⟩ : ∃ q : Pl, q = (stampD d e, ra, e.rule.length, rc) := ⟨_, rfl⟩
      have hqok : ∀ R', RO.le R R' → PlOK R' q := fun R' hle => by rw [hq]; exact he.mono hle
      have hq1 : q.1 = stampD d e := by rw [hq]
      have hqc : q.ed.cells = [.int .i64 e.kind, .int .i64 e.day, .int .i64 d.id, .int .i64 (64 * d.next + d.epoch), .int .i64 e.mv.day, .bool e.mv.drop, .int .i64 e.mv.toDay, .int .i64 e.mv.minute, .int .i64 e.mv.length, .int .i64 e.minute, .int .i64 e.length, .slice ra e.rule.length rc, .string e.zone] := by rw [hq]; rfl
      have hrowE : ∀ R' b cap, RO.le R3 R' → RowIn R' b (rowP (ps ++ [q])) → (rowP (ps ++ [q])).length ≤ cap * 13 → EdsV R' (.slice (some ⟨b, 0, none⟩) (d.edits.length + 1) cap) (d.edits ++ [stampD d e]) := fun R' b cap hle hrow hcap => by
        have h1 := EdsV.row hrow hcap (fun p hp => by
          rcases List.mem_append.1 hp with hp | hp
          · exact (hpo p hp).mono hle
          · simp only [List.mem_cons, List.not_mem_nil, or_false] at hp; subst hp
            exact hqok R' (RO.le_trans hle1 (RO.le_trans hle2 (RO.le_trans hle3 hle)))) (by simp; omega)
        rw [List.map_append, hps, List.map_cons, List.map_nil, hq1, List.length_append, hpl] at h1
        exact h1
      have hrg : List.range' 4 2 = [4, 5] := rfl
      rcases hbs with ⟨hnil, rfl, rfl⟩ | ⟨rfl, rfl⟩
      · have hp0 : ps = [] := List.eq_nil_of_length_eq_zero (by rw [hpl, hnil]; rfl)
        try simp only [go_sem, ↓reduceIte, Nat.reduceEqDiff, Nat.reduceAdd, Nat.reduceMul, Nat.reduceLeDiff, Nat.reduceLT, Nat.reduceBNe, reduceCtorEq]
        refine vcall (hSt ⟨e.kind, e.day, 0, 1, e.mv, e.minute, e.length, ra, e.rule.length, rc, e.zone⟩ rfl ⟨by omega, by omega, by omega, by omega⟩ R3) ?_
        rintro R4 r hle4 rfl
        simp only [Ed.val]
        try simp only [go_sem, ↓reduceIte, Nat.reduceEqDiff, Nat.reduceAdd, Nat.reduceMul, Nat.reduceLeDiff, Nat.reduceLT, Nat.reduceBNe, reduceCtorEq]
        refine ⟨_, W.in64 (by omega), ?_⟩
        refine vfreeze ?_
        try simp only [go_sem, ↓reduceIte, Nat.reduceEqDiff, Nat.reduceAdd, Nat.reduceMul, Nat.reduceLeDiff, Nat.reduceLT, Nat.reduceBNe, reduceCtorEq, hrg, renB]
        intro b cap' R5 hle5 hrow hcap' hfr
        have hE := hrowE R5 b cap' (RO.le_trans hle4 hle5) (by rw [hp0]; simp only [List.nil_append]; rw [show rowP [q] = q.ed.cells from by simp [rowP], hqc]; exact hrow) (by rw [hp0]; simp only [List.nil_append]; rw [show rowP [q] = q.ed.cells from by simp [rowP], hqc]; exact hcap')
        rw [show d.edits.length + 1 = 1 by rw [hnil]; rfl] at hE
        refine vcall (hW R5 _ _ _ rfl hE) ?_
        rintro R6 w hle6 ⟨v', rfl, hv'⟩
        have hv1 := hv'.one
        obtain ⟨va, vc, rfl, _⟩ := hv'.form
        try simp only [go_sem, ↓reduceIte, Nat.reduceEqDiff, Nat.reduceAdd, Nat.reduceMul, Nat.reduceLeDiff, Nat.reduceLT, Nat.reduceBNe, reduceCtorEq]
        rw [List.length_append] at hv'
        exact hfin R6 _ (RO.le_trans hle4 (RO.le_trans hle5 hle6)) hv'
      · try simp only [go_sem, ↓reduceIte, Nat.reduceEqDiff, Nat.reduceAdd, Nat.reduceMul, Nat.reduceLeDiff, Nat.reduceLT, Nat.reduceBNe, reduceCtorEq]
        refine vcall (hSt ⟨e.kind, e.day, 0, 1, e.mv, e.minute, e.length, ra, e.rule.length, rc, e.zone⟩ rfl ⟨by omega, by omega, by omega, by omega⟩ R3) ?_
        rintro R4 r hle4 rfl
        simp only [Ed.val]
        try simp only [go_sem, ↓reduceIte, Nat.reduceEqDiff, Nat.reduceAdd, Nat.reduceMul, Nat.reduceLeDiff, Nat.reduceLT, Nat.reduceBNe, reduceCtorEq]
        refine vappO (rowP ps) rfl (by rw [rowP_len, hpl]) (by omega) ?_
        try simp only [go_sem, ↓reduceIte, Nat.reduceEqDiff, Nat.reduceAdd, Nat.reduceMul, Nat.reduceLeDiff, Nat.reduceLT, Nat.reduceBNe, reduceCtorEq, hrg, renB]
        refine ⟨_, W.in64 (by omega), ?_⟩
        refine vfreeze ?_
        try simp only [go_sem, ↓reduceIte, Nat.reduceEqDiff, Nat.reduceAdd, Nat.reduceMul, Nat.reduceLeDiff, Nat.reduceLT, Nat.reduceBNe, reduceCtorEq, hrg, renB]
        intro b cap' R5 hle5 hrow hcap' hfr
        refine vcall (hW R5 _ _ _ rfl (hrowE R5 b cap' (RO.le_trans hle4 hle5) (by rw [rowP_snoc, hqc]; exact hrow) (by rw [rowP_snoc, hqc, List.length_append]; exact hcap'))) ?_
        rintro R6 w hle6 ⟨v', rfl, hv'⟩
        have hv1 := hv'.one
        obtain ⟨va, vc, rfl, _⟩ := hv'.form
        try simp only [go_sem, ↓reduceIte, Nat.reduceEqDiff, Nat.reduceAdd, Nat.reduceMul, Nat.reduceLeDiff, Nat.reduceLT, Nat.reduceBNe, reduceCtorEq]
        rw [List.length_append] at hv'
        exact hfin R6 _ (RO.le_trans hle4 (RO.le_trans hle5 hle6)) hv'
    · rw [if_pos ⟨hv, hb⟩, if_pos (.inl (by omega))]
      exact rfl
  · rw [if_neg (by rw [hv]; simp)]
    exact rfl
theorem dRestore (d : Dv) (v : Value) (ep : Int) (R : RO) (h : EdsV R v d.edits) : CallsR Tryz.prog 21 [.agg (dvCells d v).toArray, .int .i64 ep] R fun R' r => DvR R' r (dvRestore d ep) := by
  have hV := dValid d v
  have h0 := h
  have hW := fun R' old w ds ho hw => dWith ⟨d.id, ep, d.next, []⟩ old w ds R' ho hw
  obtain ⟨a, cap, rfl, hc, hf⟩ := h.form
  simp only [dvCells] at hV hW ⊢
  refine callsT mix Tryz.func21 comp21 (by simp [Tryz.ntmps21]) ?_; simp only [go_sem, ↓reduceIte, Nat.reduceEqDiff, Nat.reduceAdd, Nat.reduceMul, Nat.reduceLeDiff, Nat.reduceLT, Nat.reduceBNe, reduceCtorEq, vc21, rs21]
  refine vcall (hV R h0) ?_
  rintro R1 r hle1 rfl
  try simp only [go_sem, ↓reduceIte, Nat.reduceEqDiff, Nat.reduceAdd, Nat.reduceMul, Nat.reduceLeDiff, Nat.reduceLT, Nat.reduceBNe, reduceCtorEq]
  unfold dvRestore
  refine ⟨fun hv => ⟨fun h1 => ⟨fun h2 => ?_, fun h2 => ⟨fun h3 => ?_, fun h3 => ?_⟩⟩, fun h1 => ?_⟩, fun hv => ?_⟩
  · rw [if_neg (by omega)]; exact rfl
  · rw [if_pos ⟨hv, by omega, by omega⟩, if_pos h3]; exact rfl
  · rw [if_pos ⟨hv, by omega, by omega⟩, if_neg h3]
    refine vcall (hW R1 _ _ _ rfl (h0.mono hle1)) ?_
    rintro R2 w hle2 ⟨v', rfl, hv'⟩
    have hv1 := hv'.one
    obtain ⟨va, vc, rfl, _⟩ := hv'.form
    try simp only [go_sem, ↓reduceIte, Nat.reduceEqDiff, Nat.reduceAdd, Nat.reduceMul, Nat.reduceLeDiff, Nat.reduceLT, Nat.reduceBNe, reduceCtorEq]
    exact ⟨_, rfl, hv'⟩
  · rw [if_neg (by omega)]; exact rfl
  · rw [if_neg (by rw [hv]; simp)]; exact rfl
end Go.Proofs.YtojckjngjfgfdaaGreat
