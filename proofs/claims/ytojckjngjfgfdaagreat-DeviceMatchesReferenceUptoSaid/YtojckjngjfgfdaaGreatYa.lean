import Derived.Test.YtojckjngjfgfdaaGreatDc
import Derived.Test.YtojckjngjfgfdaaGreatZa
import Derived.Test.YtojckjngjfgfdaaGreatDn
namespace Go.Proofs.YtojckjngjfgfdaaGreat
set_option linter.unusedSimpArgs false
set_option linter.unusedVariables false
open Go.Proofs.YtojckjngjfgfdaaGreat.Vc
/-! ### The reference's devices: Valid, New, Restore -/
theorem rValidD (d : Dv) (v : Value) (R : RO) (h : EdsV R v d.edits) : CallsR Tryz.prog 57 [.agg (dvCells d v).toArray] R fun _ r => r = .bool (validV d) := by
  have hdl : d.edits.length ≤ 1000000000 := by obtain ⟨_, _, _, _, h⟩ := h; exact h
  obtain ⟨a, cap, rfl, hc, hf⟩ := PlOK.of h
  simp only [dvCells]
  refine callsT mix Tryz.func57 comp57 (by simp [Tryz.ntmps57]) ?_; simp only [go_sem, ↓reduceIte, Nat.reduceEqDiff, Nat.reduceAdd, Nat.reduceMul, Nat.reduceLeDiff, Nat.reduceLT, Nat.reduceBNe, reduceCtorEq, vc57, rs57]
  have hhdr : validV d = true → 0 ≤ d.id ∧ d.id ≤ 15 ∧ 0 ≤ d.epoch ∧ d.epoch ≤ 63 ∧ 1 ≤ d.next ∧ d.next ≤ 17179869184 ∧ d.edits.length ≤ 4096 := fun hT => by
    unfold validV hdrOK at hT
    simp only [Bool.and_eq_true, decide_eq_true_eq] at hT
    exact hT.1.1
  have hbad : ¬ (0 ≤ d.id ∧ d.id ≤ 15 ∧ 0 ≤ d.epoch ∧ d.epoch ≤ 63 ∧ 1 ≤ d.next ∧ d.next ≤ 17179869184 ∧ d.edits.length ≤ 4096) → Value.bool false = Value.bool (validV d) := fun hn => by
    cases hv : validV d with
    | false => rfl
    | true => exact absurd (hhdr hv) hn
  refine ⟨fun q1 => ⟨fun q2 => ⟨fun q3 => ⟨fun q4 => ⟨fun q5 => ⟨fun q6 => ⟨fun q7 => hbad (by omega), fun q7 => ?_⟩, fun q6 => hbad (by omega)⟩, fun q5 => hbad (by omega)⟩, fun q4 => hbad (by omega)⟩, fun q3 => hbad (by omega)⟩, fun q2 => hbad (by omega)⟩, fun q1 => hbad (by omega)⟩
  have hall : ∀ (i : Nat) (hi : i < d.edits.length), ¬ (okEd d.next d.edits[i] = true) → Value.bool false = Value.bool (validV d) := fun i hi hn => by
    cases hv : validV d with
    | false => rfl
    | true =>
      unfold validV at hv
      simp only [Bool.and_eq_true, decide_eq_true_eq, List.all_eq_true] at hv
      exact absurd (hv.1.2 _ (List.getElem_mem hi)) hn
  have hsrt : ∀ (i : Nat) (hi : i < d.edits.length), 0 < i → ¬ lessD (d.edits[i - 1]'(by omega)) d.edits[i] = true → Value.bool false = Value.bool (validV d) := fun i hi h0 hn => by
    cases hv : validV d with
    | false => rfl
    | true =>
      unfold validV at hv
      simp only [Bool.and_eq_true, decide_eq_true_eq] at hv
      exact absurd (List.pairwise_iff_getElem.1 hv.2 (i - 1) i (by omega) hi (by omega)) hn
  clear hbad hhdr
  refine vcLoop Nat (fun i => [(3, .val (.int .i64 i)), (1, .loc 0 0)])
    (fun _ => [.box [.val (.int .i64 d.id), .val (.int .i64 d.epoch), .val (.int .i64 d.next), .val (.slice a d.edits.length cap)]])
    (fun i _ => i ≤ d.edits.length ∧ (∀ e ∈ d.edits.take i, okEd d.next e = true) ∧ SortedD (d.edits.take i)) (fun i => d.edits.length - i) 0 ?_ ?_ ?_ ?_
  · (try simp only [go_sem, ↓reduceIte, Nat.reduceEqDiff, Nat.reduceAdd, Nat.reduceMul, Nat.reduceLeDiff, Nat.reduceLT, Nat.reduceBNe, reduceCtorEq]) <;> (repeat' (first | rfl | trivial | constructor | (intro h; exact absurd rfl h)))
  · try simp only [go_sem, ↓reduceIte, Nat.reduceEqDiff, Nat.reduceAdd, Nat.reduceMul, Nat.reduceLeDiff, Nat.reduceLT, Nat.reduceBNe, reduceCtorEq]
  · exact ⟨Nat.zero_le _, by simp, List.Pairwise.nil⟩
  rintro i env R1 hle1 hE ⟨hi, hok, hso⟩
  (simp only [go_sem] at hE; obtain ⟨e3, e1⟩ := hE; simp only [go_sem, ↓reduceIte, Nat.reduceEqDiff, Nat.reduceAdd, Nat.reduceMul, Nat.reduceLeDiff, Nat.reduceLT, Nat.reduceBNe, reduceCtorEq, e3, e1]; dsimp only at *)
  refine ⟨fun hlt => ?_, fun hge => ?_⟩
  · have hlt' : i < d.edits.length := by omega
    obtain ⟨ad, p, had, hp1, hR, hpok⟩ := hf i hlt'
    have hcells : ∀ j u, (p.ed.cells)[j]? = some u → R1 ((ad.add (i * 13)).add j) u := fun j u hj => hle1 _ _ (hR j u hj)
    have htk := List.take_succ_eq_append_getElem hlt'
    have hA := hall i hlt'
    rw [← hp1] at htk hA
    refine ⟨by omega, vat ad had ?_⟩
    try simp only [go_sem, ↓reduceIte, Nat.reduceEqDiff, Nat.reduceAdd, Nat.reduceMul, Nat.reduceLeDiff, Nat.reduceLT, Nat.reduceBNe, reduceCtorEq]
    refine vloadn p.ed.cells rfl hcells ?_
    simp only [go_sem, ↓reduceIte, Nat.reduceEqDiff, Nat.reduceAdd, Nat.reduceMul, Nat.reduceLeDiff, Nat.reduceLT, Nat.reduceBNe, reduceCtorEq, Ed.cells, Pl.ed, De.ed, e3, e1]
    refine vcall (rValid p.ed R1) ?_
    rintro R2 v hle2 rfl
    rw [validE_ed p hpok.len]
    simp only [go_sem, ↓reduceIte, Nat.reduceEqDiff, Nat.reduceAdd, Nat.reduceMul, Nat.reduceLeDiff, Nat.reduceLT, Nat.reduceBNe, reduceCtorEq, e3, e1]
    refine ⟨fun hv => ?_, fun hv => hA (by rw [okEd_iff]; simp [hv])⟩
    have hsq := validD_seq hv
    have htd : p.1.seq.tdiv 64 = p.1.seq / 64 := tdiv_nonneg' (by omega) (by omega)
    have hnew : p.1.seq / 64 < d.next → (0 < i → lessD (d.edits[i - 1]'(by omega)) p.1 = true) → (∀ e ∈ d.edits.take (i + 1), okEd d.next e = true) ∧ SortedD (d.edits.take (i + 1)) := fun hn hl => by
      rw [htk]
      refine ⟨fun e he => ?_, List.pairwise_append.2 ⟨hso, List.pairwise_singleton _ _, fun x hx y hy => ?_⟩⟩
      · rcases List.mem_append.1 he with he | he
        · exact hok e he
        · simp only [List.mem_cons, List.not_mem_nil, or_false] at he; subst he
          rw [okEd_iff]; exact ⟨hv, hn⟩
      · simp only [List.mem_cons, List.not_mem_nil, or_false] at hy; subst hy
        obtain ⟨j, hj, rfl⟩ := List.mem_take_iff_getElem.1 hx
        by_cases hji : j = i - 1
        · subst hji; exact hl (by omega)
        · have h1 := List.pairwise_iff_getElem.1 hso j (i - 1) (by simp; omega) (by simp; omega) (by omega)
          rw [List.getElem_take, List.getElem_take] at h1
          exact lessD_trans h1 (hl (by omega))
    refine ⟨fun hpos => ?_, fun hz => ?_⟩
    · obtain ⟨ad', q, had', hq1, hR', hqok⟩ := hf (i - 1) (by omega)
      have hti : ((i : Int) - 1).toNat = i - 1 := by omega
      have hS := hsrt i hlt' (by omega)
      rw [← hp1, ← hq1] at hS
      refine ⟨_, W.in64 (by omega), by omega, by omega, ?_⟩
      rw [hti]
      refine vat ad' had' ?_
      try simp only [go_sem, ↓reduceIte, Nat.reduceEqDiff, Nat.reduceAdd, Nat.reduceMul, Nat.reduceLeDiff, Nat.reduceLT, Nat.reduceBNe, reduceCtorEq]
      refine vloadn q.ed.cells rfl (fun j u hj => hle2 _ _ (hle1 _ _ (hR' j u hj))) ?_
      simp only [go_sem, ↓reduceIte, Nat.reduceEqDiff, Nat.reduceAdd, Nat.reduceMul, Nat.reduceLeDiff, Nat.reduceLT, Nat.reduceBNe, reduceCtorEq, Ed.cells, Pl.ed, De.ed, e3, e1]
      refine vcall (rLess q.ed p.ed R2) ?_
      rintro R3 v hle3 rfl
      have hle : lessE q.ed p.ed = lessD q.1 p.1 := rfl
      rw [hle]
      simp only [go_sem, ↓reduceIte, Nat.reduceEqDiff, Nat.reduceAdd, Nat.reduceMul, Nat.reduceLeDiff, Nat.reduceLT, Nat.reduceBNe, reduceCtorEq, e3, e1]
      refine ⟨fun hl => ?_, fun hl => hS (by rw [hl]; simp)⟩
      refine ⟨by omega, _, W.in64 (by rw [htd]; omega), ?_⟩
      rw [htd]
      refine ⟨fun hn => hA (by rw [okEd_iff]; omega), fun hn => ?_⟩
      refine ⟨_, W.in64 (by omega), i + 1, by omega, by constructor, by omega, ?_⟩
      exact hnew (by omega) (fun _ => by rw [← hq1]; exact hl)
    · obtain rfl : i = 0 := by omega
      refine ⟨by omega, _, W.in64 (by rw [htd]; omega), ?_⟩
      rw [htd]
      refine ⟨fun hn => hA (by rw [okEd_iff]; omega), fun hn => ?_⟩
      refine ⟨_, W.in64 (by omega), 1, by omega, by constructor, by omega, ?_⟩
      exact hnew (by omega) (fun h => absurd h (by omega))
  · obtain rfl : i = d.edits.length := by omega
    rw [List.take_length] at hok hso
    have : validV d = true := by
      unfold validV hdrOK
      simp only [Bool.and_eq_true, decide_eq_true_eq, List.all_eq_true]
      exact ⟨⟨by omega, hok⟩, hso⟩
    rw [this]
theorem rNewD (id : Int) (R : RO) : CallsR Tryz.prog 16 [.int .i64 id] R fun R' r => DvR R' r (dvNew id) := by
  refine callsT mix Tryz.func16 comp16 (by simp [Tryz.ntmps16]) ?_; simp only [go_sem, ↓reduceIte, Nat.reduceEqDiff, Nat.reduceAdd, Nat.reduceMul, Nat.reduceLeDiff, Nat.reduceLT, Nat.reduceBNe, reduceCtorEq, vc16, rs16]
  unfold dvNew
  refine ⟨fun h => ⟨fun h2 => ?_, fun h2 => ?_⟩, fun h => ?_⟩
  · rw [if_neg (by omega)]; exact rfl
  · rw [if_pos (by omega)]; exact ⟨_, rfl, EdsV.nil _⟩
  · rw [if_neg (by omega)]; exact rfl
theorem rRestoreD (d : Dv) (v : Value) (ep : Int) (R : RO) (h : EdsV R v d.edits) : CallsR Tryz.prog 22 [.agg (dvCells d v).toArray, .int .i64 ep] R fun R' r => DvR R' r (dvRestore d ep) := by
  have hV := rValidD d v
  have h0 := h
  obtain ⟨a, cap, rfl, hc, hf⟩ := h.form
  simp only [dvCells] at hV ⊢
  refine callsT mix Tryz.func22 comp22 (by simp [Tryz.ntmps22]) ?_; simp only [go_sem, ↓reduceIte, Nat.reduceEqDiff, Nat.reduceAdd, Nat.reduceMul, Nat.reduceLeDiff, Nat.reduceLT, Nat.reduceBNe, reduceCtorEq, vc22, rs22]
  refine vcall (hV R h0) ?_
  rintro R1 r hle1 rfl
  try simp only [go_sem, ↓reduceIte, Nat.reduceEqDiff, Nat.reduceAdd, Nat.reduceMul, Nat.reduceLeDiff, Nat.reduceLT, Nat.reduceBNe, reduceCtorEq]
  unfold dvRestore
  refine ⟨fun hv => ⟨fun h1 => ⟨fun h2 => ?_, fun h2 => ⟨fun h3 => ?_, fun h3 => ?_⟩⟩, fun h1 => ?_⟩, fun hv => ?_⟩
  · rw [if_neg (by omega)]; exact rfl
  · rw [if_pos ⟨hv, by omega, by omega⟩, if_pos h3]; exact rfl
  · rw [if_pos ⟨hv, by omega, by omega⟩, if_neg h3]
    exact ⟨_, rfl, h0.mono hle1⟩
  · rw [if_neg (by omega)]; exact rfl
  · rw [if_neg (by rw [hv]; simp)]; exact rfl
/-- Find, and that what is found has the key. -/
theorem dFind2 (l : List De) (v : Value) (d : De) (a : Option Addr) (n c : Nat) (R : RO) (h : EdsV R v l) : CallsR Tryz.prog 37 [v, .agg ((d.ed a n c).cells).toArray] R fun _ u => (u = .int .i64 (-1) ∧ ∀ x ∈ l, keyEq d x = false) ∨ ∃ (i : Nat) (hi : i < l.length), u = .int .i64 i ∧ keyEq d l[i] = true := by
  obtain ⟨la, lc, rfl, hc, hf⟩ := h.form
  obtain ⟨_, _, _, _, hl⟩ := h
  simp only [Ed.cells, De.ed]
  refine callsT mix Tryz.func37 comp37 (by simp [Tryz.ntmps37]) ?_; simp only [go_sem, ↓reduceIte, Nat.reduceEqDiff, Nat.reduceAdd, Nat.reduceMul, Nat.reduceLeDiff, Nat.reduceLT, Nat.reduceBNe, reduceCtorEq, vc37, rs37]
  refine vcLoop Nat (fun i => [(5, .val (.int .i64 i)), (0, .val (.slice la l.length lc)), (3, .loc 0 0)])
    (fun i => [.box [.val (.int .i64 d.kind), .val (.int .i64 d.day), .val (.int .i64 d.device), .val (.int .i64 d.seq), .val (.int .i64 d.mv.day), .val (.bool d.mv.drop), .val (.int .i64 d.mv.toDay), .val (.int .i64 d.mv.minute), .val (.int .i64 d.mv.length), .val (.int .i64 d.minute), .val (.int .i64 d.length), .val (.slice a n c), .val (.string d.zone)]])
    (fun i _ => i ≤ l.length ∧ ∀ j (hj : j < l.length), j < i → keyEq d l[j] = false) (fun i => l.length - i) 0 ?_ ?_ ?_ ?_
  · (try simp only [go_sem, ↓reduceIte, Nat.reduceEqDiff, Nat.reduceAdd, Nat.reduceMul, Nat.reduceLeDiff, Nat.reduceLT, Nat.reduceBNe, reduceCtorEq]) <;> (repeat' (first | rfl | trivial | constructor | (intro h; exact absurd rfl h)))
  · try simp only [go_sem, ↓reduceIte, Nat.reduceEqDiff, Nat.reduceAdd, Nat.reduceMul, Nat.reduceLeDiff, Nat.reduceLT, Nat.reduceBNe, reduceCtorEq]
  · exact ⟨Nat.zero_le _, fun j _ hj => absurd hj (by omega)⟩
  rintro i env R1 hle1 hE ⟨hi, hno⟩
  (simp only [go_sem] at hE; obtain ⟨e5, e0, e3⟩ := hE; simp only [go_sem, ↓reduceIte, Nat.reduceEqDiff, Nat.reduceAdd, Nat.reduceMul, Nat.reduceLeDiff, Nat.reduceLT, Nat.reduceBNe, reduceCtorEq, e5, e0, e3]; dsimp only at *)
  refine ⟨fun hlt => ?_, fun hge => ?_⟩
  · have hi' : i < l.length := by omega
    obtain ⟨ad, ra, rn, rc, had, hR, _⟩ := hf i hi'
    have hnext : keyEq d l[i] = false → ∀ j (hj : j < l.length), j < i + 1 → keyEq d l[j] = false := fun hk j hj hji => by
      by_cases h : j = i
      · subst h; exact hk
      · exact hno j hj (by omega)
    have hkq : keyEq d l[i] = (decide (l[i].device = d.device) && decide (l[i].seq = d.seq)) := by
      rw [Bool.eq_iff_iff, keyEq_iff]
      simp only [Bool.and_eq_true, decide_eq_true_eq]
      exact ⟨fun h => ⟨h.1.symm, h.2.symm⟩, fun h => ⟨h.1.symm, h.2.symm⟩⟩
    refine ⟨by omega, vat ad had ?_⟩
    try simp only [go_sem, ↓reduceIte, Nat.reduceEqDiff, Nat.reduceAdd, Nat.reduceMul, Nat.reduceLeDiff, Nat.reduceLT, Nat.reduceBNe, reduceCtorEq]
    refine vload (.int .i64 l[i].device) (hle1 _ _ (hR 2 _ rfl)) ?_
    simp only [go_sem, ↓reduceIte, Nat.reduceEqDiff, Nat.reduceAdd, Nat.reduceMul, Nat.reduceLeDiff, Nat.reduceLT, Nat.reduceBNe, reduceCtorEq, e5, e0, e3]
    refine ⟨fun h1 => ⟨by omega, vat ad had ?_⟩, fun h1 => ?_⟩
    · try simp only [go_sem, ↓reduceIte, Nat.reduceEqDiff, Nat.reduceAdd, Nat.reduceMul, Nat.reduceLeDiff, Nat.reduceLT, Nat.reduceBNe, reduceCtorEq]
      refine vload (.int .i64 l[i].seq) (hle1 _ _ (hR 3 _ rfl)) ?_
      simp only [go_sem, ↓reduceIte, Nat.reduceEqDiff, Nat.reduceAdd, Nat.reduceMul, Nat.reduceLeDiff, Nat.reduceLT, Nat.reduceBNe, reduceCtorEq, e5, e0, e3]
      refine ⟨fun h2 => ?_, fun h2 => ?_⟩
      · rw [decide_eq_true h1, decide_eq_true h2] at hkq
        exact .inr ⟨i, hi', rfl, hkq⟩
      · rw [decide_eq_true h1, decide_eq_false h2] at hkq
        refine ⟨_, W.in64 (by omega), i + 1, by omega, ?_, by omega, hnext hkq⟩
        try simp only [go_sem, ↓reduceIte, Nat.reduceEqDiff, Nat.reduceAdd, Nat.reduceMul, Nat.reduceLeDiff, Nat.reduceLT, Nat.reduceBNe, reduceCtorEq]
        rfl
    · rw [decide_eq_false h1] at hkq
      refine ⟨_, W.in64 (by omega), i + 1, by omega, ?_, by omega, hnext hkq⟩
      try simp only [go_sem, ↓reduceIte, Nat.reduceEqDiff, Nat.reduceAdd, Nat.reduceMul, Nat.reduceLeDiff, Nat.reduceLT, Nat.reduceBNe, reduceCtorEq]
      rfl
  · refine .inl fun x hx => ?_
    obtain ⟨j, hj, rfl⟩ := List.mem_iff_getElem.1 hx
    exact hno j hj (by omega)
theorem rLacksD (d o : Dv) (dv ov : Value) (R : RO) (h : EdsV R dv d.edits) (k : EdsV R ov o.edits) : CallsR Tryz.prog 26 [.agg (dvCells d dv).toArray, .agg (dvCells o ov).toArray] R fun R' r => EdsV R' r (dvLacks d o) := by
  have hV := rValidD d dv
  have hW := rValidD o ov
  have h0 := h
  have k0 := k
  have hol : o.edits.length ≤ 1000000000 := by obtain ⟨_, _, _, _, h⟩ := k; exact h
  obtain ⟨a, cap, rfl, hc, _⟩ := h.form
  obtain ⟨b, bcap, rfl, hbc, hbf⟩ := PlOK.of k
  simp only [dvCells] at hV hW ⊢
  refine callsT mix Tryz.func26 comp26 (by simp [Tryz.ntmps26]) ?_; simp only [go_sem, ↓reduceIte, Nat.reduceEqDiff, Nat.reduceAdd, Nat.reduceMul, Nat.reduceLeDiff, Nat.reduceLT, Nat.reduceBNe, reduceCtorEq, vc26, rs26]
  refine vcall (hV R h0) ?_
  rintro R1 r hle1 rfl
  unfold dvLacks
  cases hv : validV d with
  | false =>
    try simp only [go_sem, ↓reduceIte, Nat.reduceEqDiff, Nat.reduceAdd, Nat.reduceMul, Nat.reduceLeDiff, Nat.reduceLT, Nat.reduceBNe, reduceCtorEq]
    try rw [if_neg (by simp)]
    try exact EdsV.nil _
  | true =>
  try simp only [go_sem, ↓reduceIte, Nat.reduceEqDiff, Nat.reduceAdd, Nat.reduceMul, Nat.reduceLeDiff, Nat.reduceLT, Nat.reduceBNe, reduceCtorEq]
  refine vcall (hW R1 (k0.mono hle1)) ?_
  rintro R2 r hle2 rfl
  cases hw : validV o with
  | false =>
    try simp only [go_sem, ↓reduceIte, Nat.reduceEqDiff, Nat.reduceAdd, Nat.reduceMul, Nat.reduceLeDiff, Nat.reduceLT, Nat.reduceBNe, reduceCtorEq]
    try rw [if_neg (by simp)]
    try exact EdsV.nil _
  | true =>
  try simp only [go_sem, ↓reduceIte, Nat.reduceEqDiff, Nat.reduceAdd, Nat.reduceMul, Nat.reduceLeDiff, Nat.reduceLT, Nat.reduceBNe, reduceCtorEq]
  try rw [if_pos ⟨rfl, rfl⟩]
  have hle12 := RO.le_trans hle1 hle2
  refine vcLoopR (Nat × List Pl) (fun x => [(6, .val (.int .i64 x.1)), (2, .loc 0 0), (3, .loc 1 0), (5, gs 2 x.2.length)])
    (fun x => [.box [.val (.int .i64 d.id), .val (.int .i64 d.epoch), .val (.int .i64 d.next), .val (.slice a d.edits.length cap)], .box [.val (.int .i64 o.id), .val (.int .i64 o.epoch), .val (.int .i64 o.next), .val (.slice b o.edits.length bcap)], gb 31 13 (rowP x.2)])
    (fun x R => x.1 ≤ o.edits.length ∧ x.2.map (·.1) = freshD d.edits (o.edits.take x.1) ∧ x.2.length ≤ x.1 ∧ ∀ p ∈ x.2, PlOK R p) (fun x => o.edits.length - x.1) (0, []) [] ?_ ?_ ?_ ?_
  · (try simp only [go_sem, ↓reduceIte, Nat.reduceEqDiff, Nat.reduceAdd, Nat.reduceMul, Nat.reduceLeDiff, Nat.reduceLT, Nat.reduceBNe, reduceCtorEq]) <;> (repeat' (first | rfl | trivial | constructor | (intro h; exact absurd rfl h)))
  · try simp only [go_sem, ↓reduceIte, Nat.reduceEqDiff, Nat.reduceAdd, Nat.reduceMul, Nat.reduceLeDiff, Nat.reduceLT, Nat.reduceBNe, reduceCtorEq]
  · exact ⟨Nat.zero_le _, rfl, Nat.le_refl _, by simp⟩
  rintro ⟨i, ps⟩ env R3 hle3 hE ⟨hi, hps, hpl, hpo⟩
  simp only [] at hi hps hpl hpo
  (simp only [go_sem] at hE; obtain ⟨e6, e2, e3, e5⟩ := hE; simp only [go_sem, ↓reduceIte, Nat.reduceEqDiff, Nat.reduceAdd, Nat.reduceMul, Nat.reduceLeDiff, Nat.reduceLT, Nat.reduceBNe, reduceCtorEq, e6, e2, e3, e5]; dsimp only at *)
  have hle03 := RO.le_trans hle12 hle3
  refine ⟨fun hlt => ?_, fun hge => ?_⟩
  · have hlt' : i < o.edits.length := by omega
    obtain ⟨ad, p, had, hp1, hR, hpok⟩ := hbf i hlt'
    have hcells : ∀ j u, (p.ed.cells)[j]? = some u → R3 ((ad.add (i * 13)).add j) u := fun j u hj => hle03 _ _ (hR j u hj)
    have hfs : freshD d.edits (o.edits.take (i + 1)) = freshD d.edits (o.edits.take i) ++ if d.edits.any (keyEq p.1) = true then [] else [p.1] := by
      unfold freshD
      rw [List.take_succ_eq_append_getElem hlt', List.filter_append, ← hp1]
      cases hany : d.edits.any (keyEq p.1) <;> simp [hany]
    refine ⟨by omega, vat ad had ?_⟩
    try simp only [go_sem, ↓reduceIte, Nat.reduceEqDiff, Nat.reduceAdd, Nat.reduceMul, Nat.reduceLeDiff, Nat.reduceLT, Nat.reduceBNe, reduceCtorEq]
    refine vloadn p.ed.cells rfl hcells ?_
    simp only [go_sem, ↓reduceIte, Nat.reduceEqDiff, Nat.reduceAdd, Nat.reduceMul, Nat.reduceLeDiff, Nat.reduceLT, Nat.reduceBNe, reduceCtorEq, Ed.cells, Pl.ed, De.ed, e6, e2, e3, e5]
    have hF := dFind2 d.edits _ p.1 p.2.1 p.2.2.1 p.2.2.2 R3 (h0.mono hle03)
    simp only [Ed.cells, De.ed] at hF
    refine vcall hF ?_
    rintro R4 v hle4 hfd
    have hpo4 : ∀ q ∈ ps, PlOK R4 q := fun q hq => (hpo q hq).mono hle4
    rcases hfd with ⟨rfl, hno⟩ | ⟨q, hq, rfl, hkq⟩
    · have hany : d.edits.any (keyEq p.1) = false := List.any_eq_false.2 fun x hx => by rw [hno x hx]; simp
      rw [hany, if_neg (by simp)] at hfs
      try simp only [go_sem, ↓reduceIte, Nat.reduceEqDiff, Nat.reduceAdd, Nat.reduceMul, Nat.reduceLeDiff, Nat.reduceLT, Nat.reduceBNe, reduceCtorEq, Int.reduceLE, Int.reduceLT, Int.reduceToNat, Int.cast_ofNat_Int, Int.reduceEq, Int.reduceNe, e6, e2, e3, e5]
      refine ⟨by omega, vat ad had ?_⟩
      try simp only [go_sem, ↓reduceIte, Nat.reduceEqDiff, Nat.reduceAdd, Nat.reduceMul, Nat.reduceLeDiff, Nat.reduceLT, Nat.reduceBNe, reduceCtorEq]
      refine vloadn p.ed.cells rfl (fun j u hj => hle4 _ _ (hcells j u hj)) ?_
      simp only [go_sem, ↓reduceIte, Nat.reduceEqDiff, Nat.reduceAdd, Nat.reduceMul, Nat.reduceLeDiff, Nat.reduceLT, Nat.reduceBNe, reduceCtorEq, Ed.cells, Pl.ed, De.ed, e6, e2, e3, e5]
      refine vgrow (rowP ps) (fun h0 => by rw [gb_ne h0]; rfl) (fun h0 => by rw [h0, gb_nil]; rfl) (by rw [rowP_len]) (by omega) (by omega) (by omega) ?_
      simp only [go_sem, ↓reduceIte, Nat.reduceEqDiff, Nat.reduceAdd, Nat.reduceMul, Nat.reduceLeDiff, Nat.reduceLT, Nat.reduceBNe, reduceCtorEq, e6, e2, e3, e5]
      refine ⟨_, W.in64 (by omega), (i + 1, ps ++ [p]), [0, 1, 4], ?_⟩
      try simp only [go_sem, ↓reduceIte, Nat.reduceEqDiff, Nat.reduceAdd, Nat.reduceMul, Nat.reduceLeDiff, Nat.reduceLT, Nat.reduceBNe, reduceCtorEq]
      refine ⟨by omega, (by repeat' (first | rfl | exact fun _ => by rw [rowP_snoc]; rfl | exact fun h => gb_ne h | constructor)), by decide, by omega, by rw [hfs, ← hps]; simp, by omega, fun q hq => ?_⟩
      rcases List.mem_append.1 hq with hq | hq
      · exact hpo4 q hq
      · simp only [List.mem_cons, List.not_mem_nil, or_false] at hq
        subst hq
        exact hpok.mono (RO.le_trans hle03 hle4)
    · have hany : d.edits.any (keyEq p.1) = true := List.any_eq_true.2 ⟨_, List.getElem_mem hq, hkq⟩
      rw [hany, if_pos rfl, List.append_nil] at hfs
      have hn : ¬ (q : Int) < 0 := by omega
      try simp only [go_sem, ↓reduceIte, Nat.reduceEqDiff, Nat.reduceAdd, Nat.reduceMul, Nat.reduceLeDiff, Nat.reduceLT, Nat.reduceBNe, reduceCtorEq, Int.reduceLE, Int.reduceLT, Int.reduceToNat, Int.cast_ofNat_Int, Int.reduceEq, Int.reduceNe, e6, e2, e3, e5, eq_false hn]
      refine ⟨_, W.in64 (by omega), (i + 1, ps), [], ?_⟩
      try simp only [go_sem, ↓reduceIte, Nat.reduceEqDiff, Nat.reduceAdd, Nat.reduceMul, Nat.reduceLeDiff, Nat.reduceLT, Nat.reduceBNe, reduceCtorEq]
      refine ⟨by omega, (by repeat' (first | rfl | exact fun h => gb_ne h | constructor)), by decide, by omega, by rw [hfs, hps], by omega, hpo4⟩
  · obtain rfl : i = o.edits.length := by omega
    rw [List.take_length] at hps
    rw [← hps]
    by_cases hp0 : ps = []
    · subst hp0
      simp only [List.length_nil, gs_zero, rowP_nil, gb_nil]
      try simp only [go_sem, ↓reduceIte, Nat.reduceEqDiff, Nat.reduceAdd, Nat.reduceMul, Nat.reduceLeDiff, Nat.reduceLT, Nat.reduceBNe, reduceCtorEq]
      exact EdsV.nil _
    · have hp1 : ps.length ≠ 0 := fun h => hp0 (List.eq_nil_of_length_eq_zero h)
      rw [gs_pos hp1, gb_ne (fun h => hp1 (by have := rowP_len ps; rw [h] at this; simp at this; omega))]
      try simp only [go_sem, ↓reduceIte, Nat.reduceEqDiff, Nat.reduceAdd, Nat.reduceMul, Nat.reduceLeDiff, Nat.reduceLT, Nat.reduceBNe, reduceCtorEq]
      intro bb bc R4 hle4 hrow hcap _
      try simp only [go_sem, ↓reduceIte, Nat.reduceEqDiff, Nat.reduceAdd, Nat.reduceMul, Nat.reduceLeDiff, Nat.reduceLT, Nat.reduceBNe, reduceCtorEq]
      exact EdsV.row hrow hcap (fun q hq => (hpo q hq).mono hle4) (by omega)
end Go.Proofs.YtojckjngjfgfdaaGreat
