import Derived.Test.YtojckjngjfgfdaaGreatYb
namespace Go.Proofs.YtojckjngjfgfdaaGreat
set_option linter.unusedSimpArgs false
set_option linter.unusedVariables false
open Go.Proofs.YtojckjngjfgfdaaGreat.Vc
/-! ### The reference's Sync: plain -/
theorem insAll_spec : ∀ (l a : List De), SortedD a → SortedD l → (∀ x ∈ l, ∀ y ∈ a, keyEq x y = false) → SortedD (l.foldl insR a) ∧ ∀ x, x ∈ l.foldl insR a ↔ x ∈ a ∨ x ∈ l
  | [], a, ha, _, _ => ⟨ha, fun x => by simp⟩
  | e :: l, a, ha, hl, hk => by
    have hl' := List.pairwise_cons.1 hl
    have hne : ∀ q ∈ a, keyEq q e = false := fun q hq => keyEq_comm' (hk e (by simp) q hq)
    have hi := insR_eq hne
    have hm := insD_mem (out := a) (d := e) (fun q hq h => by rw [hne q hq] at h; cases h)
    have hs := insD_sorted (out := a) (d := e) ha
    rw [← hi] at hs
    have ih := insAll_spec l (insR a e) hs hl'.2 (fun x hx y hy => by
      rw [hi] at hy
      rcases (hm y).1 hy with rfl | hy
      · exact keyEq_comm' (lessD_key (hl'.1 x hx))
      · exact hk x (by simp [hx]) y hy)
    rw [List.foldl_cons]
    refine ⟨ih.1, fun x => ?_⟩
    rw [ih.2, hi, hm, List.mem_cons]
    constructor
    · rintro ((h | h) | h)
      · exact .inr (.inl h)
      · exact .inl h
      · exact .inr (.inr h)
    · rintro (h | h | h)
      · exact .inl (.inr h)
      · exact .inl (.inl h)
      · exact .inr h
theorem mem_freshD {a b : List De} {x : De} : x ∈ freshD a b ↔ x ∈ b ∧ ∀ y ∈ a, keyEq x y = false := by
  unfold freshD
  rw [List.mem_filter]
  refine and_congr_right fun _ => ?_
  constructor
  · intro h y hy
    cases hk : keyEq x y with
    | false => rfl
    | true =>
      have : a.any (keyEq x) = true := List.any_eq_true.2 ⟨y, hy, hk⟩
      rw [this] at h; cases h
  · intro h
    have : a.any (keyEq x) = false := List.any_eq_false.2 fun y hy => by rw [h y hy]; simp
    rw [this]; rfl
theorem ins_union {a b : List De} (ha : SortedD a) (hb : SortedD b) : (freshD a b).foldl insR a = unionD a b := by
  have hf : SortedD (freshD a b) := List.Pairwise.sublist List.filter_sublist hb
  have h := insAll_spec (freshD a b) a ha hf fun x hx => (mem_freshD.1 hx).2
  have hu := unionD_spec ha hb
  exact SortedD.ext h.1 hu.1 fun x => by rw [h.2, hu.2, mem_freshD]
theorem insAll_len : ∀ (l a : List De), (l.foldl insR a).length = a.length + l.length
  | [], a => rfl
  | e :: l, a => by rw [List.foldl_cons, insAll_len l, insR_len, List.length_cons]; omega
/-- Where the list lies: in a row of the call's own, or as a value. -/
def ouSV (n : Nat) : Option (Option Addr × Nat) → SV
  | none => .sl 4 n
  | some x => .val (.slice x.1 n x.2)
def ouBlk (ps : List Pl) : Option (Option Addr × Nat) → Blk
  | none => .row 31 13 (rowP ps)
  | some _ => .dead
theorem freshD_snoc (a b : List De) {i : Nat} (hi : i < b.length) : freshD a (b.take (i + 1)) = freshD a (b.take i) ++ if a.any (keyEq b[i]) = true then [] else [b[i]] := by
  unfold freshD
  rw [List.take_succ_eq_append_getElem hi, List.filter_append]
  cases hany : a.any (keyEq b[i]) <;> simp [hany]
theorem rSyncD (d o : Dv) (dv ov : Value) (R : RO) (h : EdsV R dv d.edits) (k : EdsV R ov o.edits) : CallsR Tryz.prog 20 [.agg (dvCells d dv).toArray, .agg (dvCells o ov).toArray] R fun R' r => DvR R' r (dvSync d o) := by
  have hV := rValidD d dv
  have hW := rValidD o ov
  have h0 := h
  have k0 := k
  obtain ⟨a, cap, rfl, hc, hf⟩ := PlOK.of h
  obtain ⟨b, bcap, rfl, hbc, hbf⟩ := PlOK.of k
  simp only [dvCells] at hV hW ⊢
  refine callsT mix Tryz.func20 comp20 (by simp [Tryz.ntmps20]) ?_; simp only [go_sem, ↓reduceIte, Nat.reduceEqDiff, Nat.reduceAdd, Nat.reduceMul, Nat.reduceLeDiff, Nat.reduceLT, Nat.reduceBNe, reduceCtorEq, vc20, rs20]
  refine vcall (hV R h0) ?_
  rintro R1 r hle1 rfl
  unfold dvSync
  cases hv : validV d with
  | false =>
    try simp only [go_sem, ↓reduceIte, Nat.reduceEqDiff, Nat.reduceAdd, Nat.reduceMul, Nat.reduceLeDiff, Nat.reduceLT, Nat.reduceBNe, reduceCtorEq]
    try rw [if_neg (by simp)]
    try exact rfl
  | true =>
  try simp only [go_sem, ↓reduceIte, Nat.reduceEqDiff, Nat.reduceAdd, Nat.reduceMul, Nat.reduceLeDiff, Nat.reduceLT, Nat.reduceBNe, reduceCtorEq]
  refine vcall (hW R1 (k0.mono hle1)) ?_
  rintro R2 r hle2 rfl
  cases hw : validV o with
  | false =>
    try simp only [go_sem, ↓reduceIte, Nat.reduceEqDiff, Nat.reduceAdd, Nat.reduceMul, Nat.reduceLeDiff, Nat.reduceLT, Nat.reduceBNe, reduceCtorEq]
    try rw [if_neg (by simp)]
    try exact rfl
  | true =>
  have hhd := validV_hdr hv
  have hho := validV_hdr hw
  have had := validV_all hv
  have hao := validV_all hw
  have hle02 := RO.le_trans hle1 hle2
  try simp only [go_sem, ↓reduceIte, Nat.reduceEqDiff, Nat.reduceAdd, Nat.reduceMul, Nat.reduceLeDiff, Nat.reduceLT, Nat.reduceBNe, reduceCtorEq]
  obtain ⟨a', cap', ps0, e1, hps0, hpo0, hsrc⟩ := (h0.mono hle02).src
  obtain ⟨rfl, _, rfl⟩ := Value.slice.inj e1
  have hpl0 : ps0.length = d.edits.length := by rw [← hps0, List.length_map]
  refine hsrc ?_
  try simp only [go_sem, ↓reduceIte, Nat.reduceEqDiff, Nat.reduceAdd, Nat.reduceMul, Nat.reduceLeDiff, Nat.reduceLT, Nat.reduceBNe, reduceCtorEq]
  refine vappO [] rfl rfl (by omega) ?_
  try simp only [go_sem, ↓reduceIte, Nat.reduceEqDiff, Nat.reduceAdd, Nat.reduceMul, Nat.reduceLeDiff, Nat.reduceLT, Nat.reduceBNe, reduceCtorEq]
  refine vcLoopR (Nat × Int × List De × Option (Option Addr × Nat) × List Pl) (fun x => [(7, .val (.int .i64 x.1)), (2, .loc 0 0), (3, .loc 1 0), (4, .loc 2 0), (6, .loc 3 0)])
    (fun x => [.box [.val (.int .i64 d.id), .val (.int .i64 d.epoch), .val (.int .i64 d.next), .val (.slice a d.edits.length cap)], .box [.val (.int .i64 o.id), .val (.int .i64 o.epoch), .val (.int .i64 o.next), .val (.slice b o.edits.length bcap)],
      .box [.val (.int .i64 0), .val (.int .i64 0), .val (.int .i64 0), .val (.slice none 0 0)], .box [.val (.int .i64 d.id), .val (.int .i64 d.epoch), .val (.int .i64 x.2.1), ouSV x.2.2.1.length x.2.2.2.1], ouBlk x.2.2.2.2 x.2.2.2.1])
    (fun x R => x.1 ≤ o.edits.length ∧ x.2.2.1 = (freshD d.edits (o.edits.take x.1)).foldl insR d.edits ∧ x.2.1 = nextD d.next (freshD d.edits (o.edits.take x.1)) ∧ (∀ y ∈ o.edits.take x.1, ∀ z ∈ d.edits, keyEq z y = true → z = y) ∧
      match x.2.2.2.1 with
      | none => x.2.2.2.2.map (·.1) = x.2.2.1 ∧ ∀ p ∈ x.2.2.2.2, PlOK R p
      | some y => EdsV R (.slice y.1 x.2.2.1.length y.2) x.2.2.1) (fun x => o.edits.length - x.1) (0, d.next, d.edits, none, ps0) [0, 1, 2, 3, 5] ?_ ?_ ?_ ?_
  · try simp only [go_sem, ↓reduceIte, Nat.reduceEqDiff, Nat.reduceAdd, Nat.reduceMul, Nat.reduceLeDiff, Nat.reduceLT, Nat.reduceBNe, reduceCtorEq]
    repeat' (first | rfl | trivial | constructor)
  · try simp only [go_sem, ↓reduceIte, Nat.reduceEqDiff, Nat.reduceAdd, Nat.reduceMul, Nat.reduceLeDiff, Nat.reduceLT, Nat.reduceBNe, reduceCtorEq]
    exact ⟨⟨rfl, rfl⟩, by decide⟩
  · exact ⟨Nat.zero_le _, rfl, rfl, by simp, hps0, hpo0⟩
  rintro ⟨i, nx, ou, fl, ps⟩ env R3 hle3 hE ⟨hi, hou, hnx, hag, hfl⟩
  simp only [] at hi hou hnx hag hfl
  have hle03 := RO.le_trans hle02 hle3
  cases fl with
  | none =>
    simp only [ouSV, ouBlk] at hE hfl ⊢
    (simp only [go_sem] at hE; obtain ⟨e7, e2, e3, e4, e6⟩ := hE; simp only [go_sem, ↓reduceIte, Nat.reduceEqDiff, Nat.reduceAdd, Nat.reduceMul, Nat.reduceLeDiff, Nat.reduceLT, Nat.reduceBNe, reduceCtorEq, e7, e2, e3, e4, e6]; dsimp only at *)
    refine ⟨fun hlt => ?_, fun hge => ?_⟩
    · have hlt' : i < o.edits.length := by omega
      obtain ⟨ad, p, hadd, hp1, hR, hpok⟩ := hbf i hlt'
      have hcells : ∀ j u, (p.ed.cells)[j]? = some u → R3 ((ad.add (i * 13)).add j) u := fun j u hj => hle03 _ _ (hR j u hj)
      have hfs := freshD_snoc d.edits o.edits hlt'
      have htk : o.edits.take (i + 1) = o.edits.take i ++ [p.1] := by rw [List.take_succ_eq_append_getElem hlt', ← hp1]
      rw [← hp1] at hfs
      have hpm : p.1 ∈ o.edits := by rw [hp1]; exact List.getElem_mem hlt'
      have hag' : (∀ z ∈ d.edits, keyEq z p.1 = true → z = p.1) → ∀ y ∈ o.edits.take (i + 1), ∀ z ∈ d.edits, keyEq z y = true → z = y := fun h y hy => by
        rw [htk] at hy
        rcases List.mem_append.1 hy with hy | hy
        · exact hag y hy
        · simp only [List.mem_cons, List.not_mem_nil, or_false] at hy
          subst hy; exact h
      have hfl1 : (freshD d.edits (o.edits.take i)).length ≤ 4096 := by
        have h1 : (freshD d.edits (o.edits.take i)).length ≤ (o.edits.take i).length := List.length_filter_le _ _
        rw [List.length_take] at h1; omega
      have houl : ou.length ≤ 8192 := by rw [hou, insAll_len]; omega
      have hpsq := hao.1 p.1 hpm
      have hsq := validD_seq hpsq.1
      have htd : p.1.seq.tdiv 64 = p.1.seq / 64 := tdiv_nonneg' (by omega) (by omega)
      refine ⟨by omega, vat ad hadd ?_⟩
      try simp only [go_sem, ↓reduceIte, Nat.reduceEqDiff, Nat.reduceAdd, Nat.reduceMul, Nat.reduceLeDiff, Nat.reduceLT, Nat.reduceBNe, reduceCtorEq]
      refine vloadn p.ed.cells rfl hcells ?_
      simp only [go_sem, ↓reduceIte, Nat.reduceEqDiff, Nat.reduceAdd, Nat.reduceMul, Nat.reduceLeDiff, Nat.reduceLT, Nat.reduceBNe, reduceCtorEq, Ed.cells, Pl.ed, De.ed, e7, e2, e3, e4, e6]
      have hF := dFind2 d.edits _ p.1 p.2.1 p.2.2.1 p.2.2.2 R3 (h0.mono hle03)
      simp only [Ed.cells, De.ed] at hF
      refine vcall hF ?_
      rintro R4 v hle4 hfd
      rcases hfd with ⟨rfl, hno⟩ | ⟨q, hq, rfl, hkq⟩
      · have hany : d.edits.any (keyEq p.1) = false := List.any_eq_false.2 fun x hx => by rw [hno x hx]; simp
        rw [hany, if_neg (by simp)] at hfs
        try simp only [go_sem, ↓reduceIte, Nat.reduceEqDiff, Nat.reduceAdd, Nat.reduceMul, Nat.reduceLeDiff, Nat.reduceLT, Nat.reduceBNe, reduceCtorEq, Int.reduceLE, Int.reduceLT, Int.reduceToNat, Int.cast_ofNat_Int, Int.reduceEq, Int.reduceNe, e7, e2, e3, e4, e6]
        refine vfreeze ?_
        try simp only [go_sem, ↓reduceIte, Nat.reduceEqDiff, Nat.reduceAdd, Nat.reduceMul, Nat.reduceLeDiff, Nat.reduceLT, Nat.reduceBNe, reduceCtorEq]
        intro bb bc R4' hle4' hrow hcap hfr
        try simp only [go_sem, ↓reduceIte, Nat.reduceEqDiff, Nat.reduceAdd, Nat.reduceMul, Nat.reduceLeDiff, Nat.reduceLT, Nat.reduceBNe, reduceCtorEq]
        have hEd := EdsV.row hrow (by simpa using hcap) (fun q hq => (hfl.2 q hq).mono (RO.le_trans hle4 hle4')) (by have := congrArg List.length hfl.1; rw [List.length_map] at this; omega)
        have hpl : ps.length = ou.length := by have := congrArg List.length hfl.1; rw [List.length_map] at this; omega
        rw [hfl.1, hpl] at hEd
        have hIns := rInserted ou p _ R4' hEd (hpok.mono (RO.le_trans hle03 (RO.le_trans hle4 hle4'))) (by omega)
        simp only [Ed.val, Ed.cells, Pl.ed, De.ed] at hIns
        refine vcall hIns ?_
        rintro R5 r hle5 hr
        obtain ⟨ra5, rc5, rfl, _⟩ := hr.form
        try simp only [go_sem, ↓reduceIte, Nat.reduceEqDiff, Nat.reduceAdd, Nat.reduceMul, Nat.reduceLeDiff, Nat.reduceLT, Nat.reduceBNe, reduceCtorEq, Int.reduceLE, Int.reduceLT, Int.reduceToNat, Int.cast_ofNat_Int, Int.reduceEq, Int.reduceNe, e7, e2, e3, e4, e6]
        refine ⟨_, W.in64 (by rw [htd]; omega), ?_⟩
        rw [htd]
        refine ⟨_, W.in64 (by omega), ?_⟩
        try simp only [go_sem, ↓reduceIte, Nat.reduceEqDiff, Nat.reduceAdd, Nat.reduceMul, Nat.reduceLeDiff, Nat.reduceLT, Nat.reduceBNe, reduceCtorEq, Int.reduceLE, Int.reduceLT, Int.reduceToNat, Int.cast_ofNat_Int, Int.reduceEq, Int.reduceNe, e7, e2, e3, e4, e6]
        refine ⟨_, W.in64 (by omega), (i + 1, max nx (p.1.seq / 64 + 1), insR ou p.1, some (ra5, rc5), []), [], ?_⟩
        simp only [ouSV, ouBlk]
        try simp only [go_sem, ↓reduceIte, Nat.reduceEqDiff, Nat.reduceAdd, Nat.reduceMul, Nat.reduceLeDiff, Nat.reduceLT, Nat.reduceBNe, reduceCtorEq]
        refine ⟨by omega, (by repeat' (first | rfl | constructor)), by decide, by omega, ?_, ?_, hag' (fun z hz hk => ?_), hr⟩
        · rw [hfs, List.foldl_append, ← hou]; rfl
        · rw [hfs, nextD_snoc, ← hnx]
        · exfalso
          have := hno z hz
          rw [keyEq_symm, hk] at this; cases this
      · have hany : d.edits.any (keyEq p.1) = true := List.any_eq_true.2 ⟨_, List.getElem_mem hq, hkq⟩
        rw [hany, if_pos rfl, List.append_nil] at hfs
        have hq0 : (0 : Int) ≤ (q : Int) := by omega
        have hq1 : ¬ (q : Int) < 0 := by omega
        try simp only [go_sem, ↓reduceIte, Nat.reduceEqDiff, Nat.reduceAdd, Nat.reduceMul, Nat.reduceLeDiff, Nat.reduceLT, Nat.reduceBNe, reduceCtorEq, Int.reduceLE, Int.reduceLT, Int.reduceToNat, Int.cast_ofNat_Int, Int.reduceEq, Int.reduceNe, e7, e2, e3, e4, e6, hq0, eq_false hq1]
        obtain ⟨ad2, pq, had2, hpq1, hR2, hpqok⟩ := hf q hq
        refine ⟨by omega, vat ad2 had2 ?_⟩
        try simp only [go_sem, ↓reduceIte, Nat.reduceEqDiff, Nat.reduceAdd, Nat.reduceMul, Nat.reduceLeDiff, Nat.reduceLT, Nat.reduceBNe, reduceCtorEq]
        refine vloadn pq.ed.cells rfl (fun j u hj => hle4 _ _ (hle03 _ _ (hR2 j u hj))) ?_
        simp only [go_sem, ↓reduceIte, Nat.reduceEqDiff, Nat.reduceAdd, Nat.reduceMul, Nat.reduceLeDiff, Nat.reduceLT, Nat.reduceBNe, reduceCtorEq, Ed.cells, Pl.ed, De.ed, e7, e2, e3, e4, e6]
        have hSm := eSameR pq.1 p.1 _ _ R4 (PlOK.edV (hpqok.mono (RO.le_trans hle03 hle4))) (PlOK.edV (hpok.mono (RO.le_trans hle03 hle4)))
        simp only [Ed.cells, Pl.ed, De.ed] at hSm
        refine vcall hSm ?_
        rintro R5 v hle5 rfl
        have hkq' : keyEq pq.1 p.1 = true := by rw [hpq1, keyEq_symm]; exact hkq
        have hpqm : pq.1 ∈ d.edits := by rw [hpq1]; exact List.getElem_mem hq
        by_cases hsame : pq.1 = p.1
        · rw [decide_eq_true hsame]
          try simp only [go_sem, ↓reduceIte, Nat.reduceEqDiff, Nat.reduceAdd, Nat.reduceMul, Nat.reduceLeDiff, Nat.reduceLT, Nat.reduceBNe, reduceCtorEq, Int.reduceLE, Int.reduceLT, Int.reduceToNat, Int.cast_ofNat_Int, Int.reduceEq, Int.reduceNe, e7, e2, e3, e4, e6, hq0, eq_false hq1]
          refine ⟨_, W.in64 (by omega), (i + 1, nx, ou, none, ps), [], ?_⟩
          simp only [ouSV, ouBlk]
          try simp only [go_sem, ↓reduceIte, Nat.reduceEqDiff, Nat.reduceAdd, Nat.reduceMul, Nat.reduceLeDiff, Nat.reduceLT, Nat.reduceBNe, reduceCtorEq]
          refine ⟨by omega, (by repeat' (first | rfl | constructor)), by decide, by omega, by rw [hfs]; exact hou, by rw [hfs]; exact hnx, hag' (fun z hz hk => ?_), ⟨hfl.1, fun q hq => (hfl.2 q hq).mono (RO.le_trans hle4 hle5)⟩⟩
          have hKD : KeysD d.edits := had.2.imp fun h => lessD_key h
          have := hKD.eq hz hpqm (by rw [hsame]; exact hk)
          rw [this, hsame]
        · rw [decide_eq_false hsame]
          try simp only [go_sem, ↓reduceIte, Nat.reduceEqDiff, Nat.reduceAdd, Nat.reduceMul, Nat.reduceLeDiff, Nat.reduceLT, Nat.reduceBNe, reduceCtorEq, Int.reduceLE, Int.reduceLT, Int.reduceToNat, Int.cast_ofNat_Int, Int.reduceEq, Int.reduceNe, e7, e2, e3, e4, e6, hq0, eq_false hq1]
          have hagf : ¬ agreeD d.edits o.edits = true := fun h => by
            unfold agreeD at h
            have h1 := List.all_eq_true.1 (List.all_eq_true.1 h pq.1 hpqm) p.1 hpm
            rw [hkq'] at h1
            simp at h1
            exact hsame h1
          try rw [if_neg hagf]
          try exact rfl
    · obtain rfl : i = o.edits.length := by omega
      rw [List.take_length] at hou hnx hag
      rw [ins_union had.2 hao.2] at hou
      have hagt : agreeD d.edits o.edits = true := by
        unfold agreeD
        rw [List.all_eq_true]
        intro x hx
        rw [List.all_eq_true]
        intro y hy
        cases hk : keyEq x y with
        | false => rfl
        | true => simp [hag y hy x hx hk]
      try rw [if_pos hagt]
      rw [← hou, ← hnx]
      refine ⟨fun h1 => ?_, fun h1 => ?_⟩
      · rw [if_pos (by omega)]; exact rfl
      · rw [if_neg (by omega)]
        try simp only [go_sem, ↓reduceIte, Nat.reduceEqDiff, Nat.reduceAdd, Nat.reduceMul, Nat.reduceLeDiff, Nat.reduceLT, Nat.reduceBNe, reduceCtorEq]
        intro bb bc R4 hle4 hrow hcap hfr
        try simp only [go_sem, ↓reduceIte, Nat.reduceEqDiff, Nat.reduceAdd, Nat.reduceMul, Nat.reduceLeDiff, Nat.reduceLT, Nat.reduceBNe, reduceCtorEq]
        have hpl : ps.length = ou.length := by have := congrArg List.length hfl.1; rw [List.length_map] at this; omega
        have hEd := EdsV.row hrow (by simpa using hcap) (fun q hq => (hfl.2 q hq).mono hle4) (by omega)
        rw [hfl.1, hpl] at hEd
        exact ⟨_, rfl, hEd⟩
  | some fv =>
    simp only [ouSV, ouBlk] at hE hfl ⊢
    (simp only [go_sem] at hE; obtain ⟨e7, e2, e3, e4, e6⟩ := hE; simp only [go_sem, ↓reduceIte, Nat.reduceEqDiff, Nat.reduceAdd, Nat.reduceMul, Nat.reduceLeDiff, Nat.reduceLT, Nat.reduceBNe, reduceCtorEq, e7, e2, e3, e4, e6]; dsimp only at *)
    refine ⟨fun hlt => ?_, fun hge => ?_⟩
    · have hlt' : i < o.edits.length := by omega
      obtain ⟨ad, p, hadd, hp1, hR, hpok⟩ := hbf i hlt'
      have hcells : ∀ j u, (p.ed.cells)[j]? = some u → R3 ((ad.add (i * 13)).add j) u := fun j u hj => hle03 _ _ (hR j u hj)
      have hfs := freshD_snoc d.edits o.edits hlt'
      have htk : o.edits.take (i + 1) = o.edits.take i ++ [p.1] := by rw [List.take_succ_eq_append_getElem hlt', ← hp1]
      rw [← hp1] at hfs
      have hpm : p.1 ∈ o.edits := by rw [hp1]; exact List.getElem_mem hlt'
      have hag' : (∀ z ∈ d.edits, keyEq z p.1 = true → z = p.1) → ∀ y ∈ o.edits.take (i + 1), ∀ z ∈ d.edits, keyEq z y = true → z = y := fun h y hy => by
        rw [htk] at hy
        rcases List.mem_append.1 hy with hy | hy
        · exact hag y hy
        · simp only [List.mem_cons, List.not_mem_nil, or_false] at hy
          subst hy; exact h
      have hfl1 : (freshD d.edits (o.edits.take i)).length ≤ 4096 := by
        have h1 : (freshD d.edits (o.edits.take i)).length ≤ (o.edits.take i).length := List.length_filter_le _ _
        rw [List.length_take] at h1; omega
      have houl : ou.length ≤ 8192 := by rw [hou, insAll_len]; omega
      have hpsq := hao.1 p.1 hpm
      have hsq := validD_seq hpsq.1
      have htd : p.1.seq.tdiv 64 = p.1.seq / 64 := tdiv_nonneg' (by omega) (by omega)
      refine ⟨by omega, vat ad hadd ?_⟩
      try simp only [go_sem, ↓reduceIte, Nat.reduceEqDiff, Nat.reduceAdd, Nat.reduceMul, Nat.reduceLeDiff, Nat.reduceLT, Nat.reduceBNe, reduceCtorEq]
      refine vloadn p.ed.cells rfl hcells ?_
      simp only [go_sem, ↓reduceIte, Nat.reduceEqDiff, Nat.reduceAdd, Nat.reduceMul, Nat.reduceLeDiff, Nat.reduceLT, Nat.reduceBNe, reduceCtorEq, Ed.cells, Pl.ed, De.ed, e7, e2, e3, e4, e6]
      have hF := dFind2 d.edits _ p.1 p.2.1 p.2.2.1 p.2.2.2 R3 (h0.mono hle03)
      simp only [Ed.cells, De.ed] at hF
      refine vcall hF ?_
      rintro R4 v hle4 hfd
      rcases hfd with ⟨rfl, hno⟩ | ⟨q, hq, rfl, hkq⟩
      · have hany : d.edits.any (keyEq p.1) = false := List.any_eq_false.2 fun x hx => by rw [hno x hx]; simp
        rw [hany, if_neg (by simp)] at hfs
        try simp only [go_sem, ↓reduceIte, Nat.reduceEqDiff, Nat.reduceAdd, Nat.reduceMul, Nat.reduceLeDiff, Nat.reduceLT, Nat.reduceBNe, reduceCtorEq, Int.reduceLE, Int.reduceLT, Int.reduceToNat, Int.cast_ofNat_Int, Int.reduceEq, Int.reduceNe, e7, e2, e3, e4, e6]
        have hIns := rInserted ou p _ R4 (hfl.mono hle4) (hpok.mono (RO.le_trans hle03 hle4)) (by omega)
        simp only [Ed.val, Ed.cells, Pl.ed, De.ed] at hIns
        refine vcall hIns ?_
        rintro R5 r hle5 hr
        obtain ⟨ra5, rc5, rfl, _⟩ := hr.form
        try simp only [go_sem, ↓reduceIte, Nat.reduceEqDiff, Nat.reduceAdd, Nat.reduceMul, Nat.reduceLeDiff, Nat.reduceLT, Nat.reduceBNe, reduceCtorEq, Int.reduceLE, Int.reduceLT, Int.reduceToNat, Int.cast_ofNat_Int, Int.reduceEq, Int.reduceNe, e7, e2, e3, e4, e6]
        refine ⟨_, W.in64 (by rw [htd]; omega), ?_⟩
        rw [htd]
        refine ⟨_, W.in64 (by omega), ?_⟩
        try simp only [go_sem, ↓reduceIte, Nat.reduceEqDiff, Nat.reduceAdd, Nat.reduceMul, Nat.reduceLeDiff, Nat.reduceLT, Nat.reduceBNe, reduceCtorEq, Int.reduceLE, Int.reduceLT, Int.reduceToNat, Int.cast_ofNat_Int, Int.reduceEq, Int.reduceNe, e7, e2, e3, e4, e6]
        refine ⟨_, W.in64 (by omega), (i + 1, max nx (p.1.seq / 64 + 1), insR ou p.1, some (ra5, rc5), []), [], ?_⟩
        simp only [ouSV, ouBlk]
        try simp only [go_sem, ↓reduceIte, Nat.reduceEqDiff, Nat.reduceAdd, Nat.reduceMul, Nat.reduceLeDiff, Nat.reduceLT, Nat.reduceBNe, reduceCtorEq]
        refine ⟨by omega, (by repeat' (first | rfl | constructor)), by decide, by omega, ?_, ?_, hag' (fun z hz hk => ?_), hr⟩
        · rw [hfs, List.foldl_append, ← hou]; rfl
        · rw [hfs, nextD_snoc, ← hnx]
        · exfalso
          have := hno z hz
          rw [keyEq_symm, hk] at this; cases this
      · have hany : d.edits.any (keyEq p.1) = true := List.any_eq_true.2 ⟨_, List.getElem_mem hq, hkq⟩
        rw [hany, if_pos rfl, List.append_nil] at hfs
        have hq0 : (0 : Int) ≤ (q : Int) := by omega
        have hq1 : ¬ (q : Int) < 0 := by omega
        try simp only [go_sem, ↓reduceIte, Nat.reduceEqDiff, Nat.reduceAdd, Nat.reduceMul, Nat.reduceLeDiff, Nat.reduceLT, Nat.reduceBNe, reduceCtorEq, Int.reduceLE, Int.reduceLT, Int.reduceToNat, Int.cast_ofNat_Int, Int.reduceEq, Int.reduceNe, e7, e2, e3, e4, e6, hq0, eq_false hq1]
        obtain ⟨ad2, pq, had2, hpq1, hR2, hpqok⟩ := hf q hq
        refine ⟨by omega, vat ad2 had2 ?_⟩
        try simp only [go_sem, ↓reduceIte, Nat.reduceEqDiff, Nat.reduceAdd, Nat.reduceMul, Nat.reduceLeDiff, Nat.reduceLT, Nat.reduceBNe, reduceCtorEq]
        refine vloadn pq.ed.cells rfl (fun j u hj => hle4 _ _ (hle03 _ _ (hR2 j u hj))) ?_
        simp only [go_sem, ↓reduceIte, Nat.reduceEqDiff, Nat.reduceAdd, Nat.reduceMul, Nat.reduceLeDiff, Nat.reduceLT, Nat.reduceBNe, reduceCtorEq, Ed.cells, Pl.ed, De.ed, e7, e2, e3, e4, e6]
        have hSm := eSameR pq.1 p.1 _ _ R4 (PlOK.edV (hpqok.mono (RO.le_trans hle03 hle4))) (PlOK.edV (hpok.mono (RO.le_trans hle03 hle4)))
        simp only [Ed.cells, Pl.ed, De.ed] at hSm
        refine vcall hSm ?_
        rintro R5 v hle5 rfl
        have hkq' : keyEq pq.1 p.1 = true := by rw [hpq1, keyEq_symm]; exact hkq
        have hpqm : pq.1 ∈ d.edits := by rw [hpq1]; exact List.getElem_mem hq
        by_cases hsame : pq.1 = p.1
        · rw [decide_eq_true hsame]
          try simp only [go_sem, ↓reduceIte, Nat.reduceEqDiff, Nat.reduceAdd, Nat.reduceMul, Nat.reduceLeDiff, Nat.reduceLT, Nat.reduceBNe, reduceCtorEq, Int.reduceLE, Int.reduceLT, Int.reduceToNat, Int.cast_ofNat_Int, Int.reduceEq, Int.reduceNe, e7, e2, e3, e4, e6, hq0, eq_false hq1]
          refine ⟨_, W.in64 (by omega), (i + 1, nx, ou, some fv, ps), [], ?_⟩
          simp only [ouSV, ouBlk]
          try simp only [go_sem, ↓reduceIte, Nat.reduceEqDiff, Nat.reduceAdd, Nat.reduceMul, Nat.reduceLeDiff, Nat.reduceLT, Nat.reduceBNe, reduceCtorEq]
          refine ⟨by omega, (by repeat' (first | rfl | constructor)), by decide, by omega, by rw [hfs]; exact hou, by rw [hfs]; exact hnx, hag' (fun z hz hk => ?_), hfl.mono (RO.le_trans hle4 hle5)⟩
          have hKD : KeysD d.edits := had.2.imp fun h => lessD_key h
          have := hKD.eq hz hpqm (by rw [hsame]; exact hk)
          rw [this, hsame]
        · rw [decide_eq_false hsame]
          try simp only [go_sem, ↓reduceIte, Nat.reduceEqDiff, Nat.reduceAdd, Nat.reduceMul, Nat.reduceLeDiff, Nat.reduceLT, Nat.reduceBNe, reduceCtorEq, Int.reduceLE, Int.reduceLT, Int.reduceToNat, Int.cast_ofNat_Int, Int.reduceEq, Int.reduceNe, e7, e2, e3, e4, e6, hq0, eq_false hq1]
          have hagf : ¬ agreeD d.edits o.edits = true := fun h => by
            unfold agreeD at h
            have h1 := List.all_eq_true.1 (List.all_eq_true.1 h pq.1 hpqm) p.1 hpm
            rw [hkq'] at h1
            simp at h1
            exact hsame h1
          try rw [if_neg hagf]
          try exact rfl
    · obtain rfl : i = o.edits.length := by omega
      rw [List.take_length] at hou hnx hag
      rw [ins_union had.2 hao.2] at hou
      have hagt : agreeD d.edits o.edits = true := by
        unfold agreeD
        rw [List.all_eq_true]
        intro x hx
        rw [List.all_eq_true]
        intro y hy
        cases hk : keyEq x y with
        | false => rfl
        | true => simp [hag y hy x hx hk]
      try rw [if_pos hagt]
      rw [← hou, ← hnx]
      refine ⟨fun h1 => ?_, fun h1 => ?_⟩
      · rw [if_pos (by omega)]; exact rfl
      · rw [if_neg (by omega)]
        try simp only [go_sem, ↓reduceIte, Nat.reduceEqDiff, Nat.reduceAdd, Nat.reduceMul, Nat.reduceLeDiff, Nat.reduceLT, Nat.reduceBNe, reduceCtorEq]
        exact ⟨_, rfl, hfl⟩
end Go.Proofs.YtojckjngjfgfdaaGreat
