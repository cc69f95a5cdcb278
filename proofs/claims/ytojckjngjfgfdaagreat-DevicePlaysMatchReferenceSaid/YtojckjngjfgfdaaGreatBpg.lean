/- Lemmas of our own, no statement of the seat; the last one of the claim's texts proves the law. -/
import Derived.Test.YtojckjngjfgfdaaGreatBpf
import Derived.Test.YtojckjngjfgfdaaGreatBpb
import Derived.Test.YtojckjngjfgfdaaGreatRows
import Derived.Test.YtojckjngjfgfdaaGreatBpc
open Nat renaming reduceEqDiff → nQ1, reduceAdd → nQ2, reduceMul → nQ3, reduceLeDiff → nQ4, reduceLT → nQ5, reduceBNe → nQ6
open Int renaming reduceLE → iQ1, reduceLT → iQ2, reduceToNat → iQ3, cast_ofNat_Int → iQ4, reduceEq → iQ5, reduceNe → iQ6
namespace Go.Proofs.YtojckjngjfgfdaaGreat
set_option linter.unusedSimpArgs false
set_option linter.unusedVariables false
open Go.Proofs.YtojckjngjfgfdaaGreat.Vc
/-! ### The reference's Sync: plain -/
theorem insAll_spec : ∀ (l a : List De), SortedD a → SortedD l → (∀ x ∈ l, ∀ y ∈ a, keyEq x y = false) → SortedD (l.foldl insR a) ∧ ∀ x, x ∈ l.foldl insR a ↔ x ∈ a ∨ x ∈ l
 | [], a, ha, _, _ => ⟨ha, fun x => by simp⟩
 | e :: l, a, ha, hl, hk => by
  have hl' := List.pairwise_cons.1 hl
  have hne : ∀ q ∈ a, keyEq q e = false := fun q hq => keyEq_comm' (hk e (by simp) q hq)
  have hi := insR_eq hne
  have hm := insD_mem (out := a) (d := e) (fun q hq h => by rw [hne q hq] at h; cases h)
  have hs := insD_sorted (out := a) (d := e) ha
  rw [← hi] at hs
  have ih := insAll_spec l (insR a e) hs hl'.2 (fun x hx y hy => by
   rw [hi] at hy
   rcases (hm y).1 hy with rfl | hy
   ·exact keyEq_comm' (lessD_key (hl'.1 x hx))
   ·exact hk x (by simp [hx]) y hy)
  rw [List.foldl_cons]
  refine ⟨ih.1, fun x => ?_⟩
  rw [ih.2, hi, hm, List.mem_cons]
  constructor
  ·rintro ((h | h) | h)
   ·exact .inr (.inl h)
   ·exact .inl h
   ·exact .inr (.inr h)
  ·rintro (h | h | h)
   ·exact .inl (.inr h)
   ·exact .inl (.inl h)
   ·exact .inr h
theorem mem_freshD {a b : List De} {x : De} : x ∈ freshD a b ↔ x ∈ b ∧ ∀ y ∈ a, keyEq x y = false := by
 unfold freshD
 rw [List.mem_filter]
 refine and_congr_right fun _ => ?_
 constructor
 ·intro h y hy
  cases hk : keyEq x y with
  | false => rfl
  | true =>
   have : a.any (keyEq x) = true := List.any_eq_true.2 ⟨y, hy, hk⟩
   rw [this] at h; cases h
 ·intro h
  have : a.any (keyEq x) = false := List.any_eq_false.2 fun y hy => by rw [h y hy]; simp
  rw [this]; rfl
theorem ins_union {a b : List De} (ha : SortedD a) (hb : SortedD b) : (freshD a b).foldl insR a = unionD a b := by
 have hf : SortedD (freshD a b) := List.Pairwise.sublist List.filter_sublist hb
 have h := insAll_spec (freshD a b) a ha hf fun x hx => (mem_freshD.1 hx).2
 have hu := unionD_spec ha hb
 exact SortedD.ext h.1 hu.1 fun x => by rw [h.2, hu.2, mem_freshD]
theorem insAll_len : ∀ (l a : List De), (l.foldl insR a).length = a.length + l.length
 | [], a => rfl
 | e :: l, a => by rw [List.foldl_cons, insAll_len l, insR_len, List.length_cons]; omega
def ouSV (n : Nat) : Option (Option Addr × Nat) → SV
 | none => .sl 4 n
 | some x => .val (.slice x.1 n x.2)
def ouBlk (ps : List Pl) : Option (Option Addr × Nat) → Blk
 | none => .row 31 13 (rowP ps)
 | some _ => .dead
theorem freshD_snoc (a b : List De) {i : Nat} (hi : i < b.length) : freshD a (b.take (i + 1)) = freshD a (b.take i) ++ if a.any (keyEq b[i]) = true then [] else [b[i]] := by
 unfold freshD
 rw [List.take_succ_eq_append_getElem hi, List.filter_append]
 cases hany : a.any (keyEq b[i]) <;> simp [hany]
theorem rSyncD (d o : Dv) (dv ov : Value) (R : RO) (h : EdsV R dv d.edits) (k : EdsV R ov o.edits) : CallsR Tryz.prog 20 [.agg (dvCells d dv).toArray, .agg (dvCells o ov).toArray] R fun R' r => DvR R' r (dvSync d o) := by
 have hV := rValidD d dv
 have hW := rValidD o ov
 have h0 := h
 have k0 := k
 obtain ⟨a, cap, rfl, hc, hf⟩ := PlOK.of h
 obtain ⟨b, bcap, rfl, hbc, hbf⟩ := PlOK.of k
 simp only [dvCells] at hV hW ⊢
 refine callsT mix Tryz.func20 comp20 (by simp [Tryz.ntmps20]) ?_; simp only [go_sem, ↓reduceIte, nQ1, nQ2, nQ3, nQ4, nQ5, nQ6, reduceCtorEq, vc20, rs20]
 refine vcall (hV R h0) ?_
 rintro R1 r hle1 rfl
 unfold dvSync
 cases hv : validV d with
 | false =>
  try simp only [go_sem, ↓reduceIte, nQ1, nQ2, nQ3, nQ4, nQ5, nQ6, reduceCtorEq]
  try rw [if_neg (by simp)]
  try exact rfl
 | true =>
 try simp only [go_sem, ↓reduceIte, nQ1, nQ2, nQ3, nQ4, nQ5, nQ6, reduceCtorEq]
 refine vcall (hW R1 (k0.mono hle1)) ?_
 rintro R2 r hle2 rfl
 cases hw : validV o with
 | false =>
  try simp only [go_sem, ↓reduceIte, nQ1, nQ2, nQ3, nQ4, nQ5, nQ6, reduceCtorEq]
  try rw [if_neg (by simp)]
  try exact rfl
 | true =>
 have hhd := validV_hdr hv
 have hho := validV_hdr hw
 have had := validV_all hv
 have hao := validV_all hw
 have hle02 := RO.le_trans hle1 hle2
 try simp only [go_sem, ↓reduceIte, nQ1, nQ2, nQ3, nQ4, nQ5, nQ6, reduceCtorEq]
 obtain ⟨a', cap', ps0, e1, hps0, hpo0, hsrc⟩ := (h0.mono hle02).src
 obtain ⟨rfl, _, rfl⟩ := Value.slice.inj e1
 have hpl0 : ps0.length = d.edits.length := by rw [← hps0, List.length_map]
 refine hsrc ?_
 try simp only [go_sem, ↓reduceIte, nQ1, nQ2, nQ3, nQ4, nQ5, nQ6, reduceCtorEq]
 refine vappO [] rfl rfl (by omega) ?_
 try simp only [go_sem, ↓reduceIte, nQ1, nQ2, nQ3, nQ4, nQ5, nQ6, reduceCtorEq]
 refine vcLoopR (Nat × Int × List De × Option (Option Addr × Nat) × List Pl) (fun x => [(7, .val (.int .i64 x.1)), (2, .loc 0 0), (3, .loc 1 0), (4, .loc 2 0), (6, .loc 3 0)])
  (fun x => [.box [.val (.int .i64 d.id), .val (.int .i64 d.epoch), .val (.int .i64 d.next), .val (.slice a d.edits.length cap)], .box [.val (.int .i64 o.id), .val (.int .i64 o.epoch), .val (.int .i64 o.next), .val (.slice b o.edits.length bcap)],
   .box [.val (.int .i64 0), .val (.int .i64 0), .val (.int .i64 0), .val (.slice none 0 0)], .box [.val (.int .i64 d.id), .val (.int .i64 d.epoch), .val (.int .i64 x.2.1), ouSV x.2.2.1.length x.2.2.2.1], ouBlk x.2.2.2.2 x.2.2.2.1])
  (fun x R => x.1 ≤ o.edits.length ∧ x.2.2.1 = (freshD d.edits (o.edits.take x.1)).foldl insR d.edits ∧ x.2.1 = nextD d.next (freshD d.edits (o.edits.take x.1)) ∧ (∀ y ∈ o.edits.take x.1, ∀ z ∈ d.edits, keyEq z y = true → z = y) ∧
   match x.2.2.2.1 with
   | none => x.2.2.2.2.map (·.1) = x.2.2.1 ∧ ∀ p ∈ x.2.2.2.2, PlOK R p
   | some y => EdsV R (.slice y.1 x.2.2.1.length y.2) x.2.2.1) (fun x => o.edits.length - x.1) (0, d.next, d.edits, none, ps0) [0, 1, 2, 3, 5] ?_ ?_ ?_ ?_
 ·try simp only [go_sem, ↓reduceIte, nQ1, nQ2, nQ3, nQ4, nQ5, nQ6, reduceCtorEq]
  repeat' (first | rfl | trivial | constructor)
 ·try simp only [go_sem, ↓reduceIte, nQ1, nQ2, nQ3, nQ4, nQ5, nQ6, reduceCtorEq]
  exact ⟨⟨rfl, rfl⟩, by decide⟩
 ·exact ⟨Nat.zero_le _, rfl, rfl, by simp, hps0, hpo0⟩
 rintro ⟨i, nx, ou, fl, ps⟩ env R3 hle3 hE ⟨hi, hou, hnx, hag, hfl⟩
 simp only [] at hi hou hnx hag hfl
 have hle03 := RO.le_trans hle02 hle3
 cases fl with
 | none =>
  simp only [ouSV, ouBlk] at hE hfl ⊢
  (simp only [go_sem] at hE; obtain ⟨e7, e2, e3, e4, e6⟩ := hE; simp only [go_sem, ↓reduceIte, nQ1, nQ2, nQ3, nQ4, nQ5, nQ6, reduceCtorEq, e7, e2, e3, e4, e6]; dsimp only at *)
  refine ⟨fun hlt => ?_, fun hge => ?_⟩
  ·have hlt' : i < o.edits.length := by omega
   obtain ⟨ad, p, hadd, hp1, hR, hpok⟩ := hbf i hlt'
   have hcells : ∀ j u, (p.ed.cells)[j]? = some u → R3 ((ad.add (i * 13)).add j) u := fun j u hj => hle03 _ _ (hR j u hj)
   have hfs := freshD_snoc d.edits o.edits hlt'
   have htk : o.edits.take (i + 1) = o.edits.take i ++ [p.1] := by rw [List.take_succ_eq_append_getElem hlt', ← hp1]
   rw [← hp1] at hfs
   have hpm : p.1 ∈ o.edits := by rw [hp1]; exact List.getElem_mem hlt'
   have hag' : (∀ z ∈ d.edits, keyEq z p.1 = true → z = p.1) → ∀ y ∈ o.edits.take (i + 1), ∀ z ∈ d.edits, keyEq z y = true → z = y := fun h y hy => by
    rw [htk] at hy
    rcases List.mem_append.1 hy with hy | hy
    ·exact hag y hy
    ·simp only [List.mem_cons, List.not_mem_nil, or_false] at hy
     subst hy; exact h
   have hfl1 : (freshD d.edits (o.edits.take i)).length ≤ 4096 := by
    have h1 : (freshD d.edits (o.edits.take i)).length ≤ (o.edits.take i).length := List.length_filter_le _ _
    rw [List.length_take] at h1; omega
   have houl : ou.length ≤ 8192 := by rw [hou, insAll_len]; omega
   have hpsq := hao.1 p.1 hpm
   have hsq := validD_seq hpsq.1
   have htd : p.1.seq.tdiv 64 = p.1.seq / 64 := tdiv_nonneg' (by omega) (by omega)
   refine ⟨by omega, vat ad hadd ?_⟩
   try simp only [go_sem, ↓reduceIte, nQ1, nQ2, nQ3, nQ4, nQ5, nQ6, reduceCtorEq]
   refine vloadn p.ed.cells rfl hcells ?_
   simp only [go_sem, ↓reduceIte, nQ1, nQ2, nQ3, nQ4, nQ5, nQ6, reduceCtorEq, Ed.cells, Pl.ed, De.ed, e7, e2, e3, e4, e6]
   have hF := dFind2 d.edits _ p.1 p.2.1 p.2.2.1 p.2.2.2 R3 (h0.mono hle03)
   simp only [Ed.cells, De.ed] at hF
   refine vcall hF ?_
   rintro R4 v hle4 hfd
   rcases hfd with ⟨rfl, hno⟩ | ⟨q, hq, rfl, hkq⟩
   ·have hany : d.edits.any (keyEq p.1) = false := List.any_eq_false.2 fun x hx => by rw [hno x hx]; simp
    rw [hany, if_neg (by simp)] at hfs
    try simp only [go_sem, ↓reduceIte, nQ1, nQ2, nQ3, nQ4, nQ5, nQ6, reduceCtorEq, iQ1, iQ2, iQ3, iQ4, iQ5, iQ6, e7, e2, e3, e4, e6]
    refine vfreeze ?_
    try simp only [go_sem, ↓reduceIte, nQ1, nQ2, nQ3, nQ4, nQ5, nQ6, reduceCtorEq]
    intro bb bc R4' hle4' hrow hcap hfr
    try simp only [go_sem, ↓reduceIte, nQ1, nQ2, nQ3, nQ4, nQ5, nQ6, reduceCtorEq]
    have hEd := EdsV.row hrow (by simpa using hcap) (fun q hq => (hfl.2 q hq).mono (RO.le_trans hle4 hle4')) (by have := congrArg List.length hfl.1; rw [List.length_map] at this; omega)
    have hpl : ps.length = ou.length := by have := congrArg List.length hfl.1; rw [List.length_map] at this; omega
    rw [hfl.1, hpl] at hEd
    have hIns := rInserted ou p _ R4' hEd (hpok.mono (RO.le_trans hle03 (RO.le_trans hle4 hle4'))) (by omega)
    simp only [Ed.val, Ed.cells, Pl.ed, De.ed] at hIns
    refine vcall hIns ?_
    rintro R5 r hle5 hr
    obtain ⟨ra5, rc5, rfl, _⟩ := hr.form
    try simp only [go_sem, ↓reduceIte, nQ1, nQ2, nQ3, nQ4, nQ5, nQ6, reduceCtorEq, iQ1, iQ2, iQ3, iQ4, iQ5, iQ6, e7, e2, e3, e4, e6]
    refine ⟨_, W.in64 (by rw [htd]; omega), ?_⟩
    rw [htd]
    refine ⟨_, W.in64 (by omega), ?_⟩
    try simp only [go_sem, ↓reduceIte, nQ1, nQ2, nQ3, nQ4, nQ5, nQ6, reduceCtorEq, iQ1, iQ2, iQ3, iQ4, iQ5, iQ6, e7, e2, e3, e4, e6]
    refine ⟨_, W.in64 (by omega), (i + 1, max nx (p.1.seq / 64 + 1), insR ou p.1, some (ra5, rc5), []), [], ?_⟩
    simp only [ouSV, ouBlk]
    try simp only [go_sem, ↓reduceIte, nQ1, nQ2, nQ3, nQ4, nQ5, nQ6, reduceCtorEq]
    refine ⟨by omega, (by repeat' (first | rfl | constructor)), by decide, by omega, ?_, ?_, hag' (fun z hz hk => ?_), hr⟩
    ·rw [hfs, List.foldl_append, ← hou]; rfl
    ·rw [hfs, nextD_snoc, ← hnx]
    ·exfalso
     have := hno z hz
     rw [keyEq_symm, hk] at this; cases this
   ·have hany : d.edits.any (keyEq p.1) = true := List.any_eq_true.2 ⟨_, List.getElem_mem hq, hkq⟩
    rw [hany, if_pos rfl, List.append_nil] at hfs
    have hq0 : (0 : Int) ≤ (q : Int) := by omega
    have hq1 : ¬ (q : Int) < 0 := by omega
    try simp only [go_sem, ↓reduceIte, nQ1, nQ2, nQ3, nQ4, nQ5, nQ6, reduceCtorEq, iQ1, iQ2, iQ3, iQ4, iQ5, iQ6, e7, e2, e3, e4, e6, hq0, eq_false hq1]
    obtain ⟨ad2, pq, had2, hpq1, hR2, hpqok⟩ := hf q hq
    refine ⟨by omega, vat ad2 had2 ?_⟩
    try simp only [go_sem, ↓reduceIte, nQ1, nQ2, nQ3, nQ4, nQ5, nQ6, reduceCtorEq]
    refine vloadn pq.ed.cells rfl (fun j u hj => hle4 _ _ (hle03 _ _ (hR2 j u hj))) ?_
    simp only [go_sem, ↓reduceIte, nQ1, nQ2, nQ3, nQ4, nQ5, nQ6, reduceCtorEq, Ed.cells, Pl.ed, De.ed, e7, e2, e3, e4, e6]
    have hSm := eSameR pq.1 p.1 _ _ R4 (PlOK.edV (hpqok.mono (RO.le_trans hle03 hle4))) (PlOK.edV (hpok.mono (RO.le_trans hle03 hle4)))
    simp only [Ed.cells, Pl.ed, De.ed] at hSm
    refine vcall hSm ?_
    rintro R5 v hle5 rfl
    have hkq' : keyEq pq.1 p.1 = true := by rw [hpq1, keyEq_symm]; exact hkq
    have hpqm : pq.1 ∈ d.edits := by rw [hpq1]; exact List.getElem_mem hq
    by_cases hsame : pq.1 = p.1
    ·rw [decide_eq_true hsame]
     try simp only [go_sem, ↓reduceIte, nQ1, nQ2, nQ3, nQ4, nQ5, nQ6, reduceCtorEq, iQ1, iQ2, iQ3, iQ4, iQ5, iQ6, e7, e2, e3, e4, e6, hq0, eq_false hq1]
     refine ⟨_, W.in64 (by omega), (i + 1, nx, ou, none, ps), [], ?_⟩
     simp only [ouSV, ouBlk]
     try simp only [go_sem, ↓reduceIte, nQ1, nQ2, nQ3, nQ4, nQ5, nQ6, reduceCtorEq]
     refine ⟨by omega, (by repeat' (first | rfl | constructor)), by decide, by omega, by rw [hfs]; exact hou, by rw [hfs]; exact hnx, hag' (fun z hz hk => ?_), ⟨hfl.1, fun q hq => (hfl.2 q hq).mono (RO.le_trans hle4 hle5)⟩⟩
     have hKD : KeysD d.edits := had.2.imp fun h => lessD_key h
     have := hKD.eq hz hpqm (by rw [hsame]; exact hk)
     rw [this, hsame]
    ·rw [decide_eq_false hsame]
     try simp only [go_sem, ↓reduceIte, nQ1, nQ2, nQ3, nQ4, nQ5, nQ6, reduceCtorEq, iQ1, iQ2, iQ3, iQ4, iQ5, iQ6, e7, e2, e3, e4, e6, hq0, eq_false hq1]
     have hagf : ¬ agreeD d.edits o.edits = true := fun h => by
      unfold agreeD at h
      have h1 := List.all_eq_true.1 (List.all_eq_true.1 h pq.1 hpqm) p.1 hpm
      rw [hkq'] at h1
      simp at h1
      exact hsame h1
     try rw [if_neg hagf]
     try exact rfl
  ·obtain rfl : i = o.edits.length := by omega
   rw [List.take_length] at hou hnx hag
   rw [ins_union had.2 hao.2] at hou
   have hagt : agreeD d.edits o.edits = true := by
    unfold agreeD
    rw [List.all_eq_true]
    intro x hx
    rw [List.all_eq_true]
    intro y hy
    cases hk : keyEq x y with
    | false => rfl
    | true => simp [hag y hy x hx hk]
   try rw [if_pos hagt]
   rw [← hou, ← hnx]
   refine ⟨fun h1 => ?_, fun h1 => ?_⟩
   ·rw [if_pos (by omega)]; exact rfl
   ·rw [if_neg (by omega)]
    try simp only [go_sem, ↓reduceIte, nQ1, nQ2, nQ3, nQ4, nQ5, nQ6, reduceCtorEq]
    intro bb bc R4 hle4 hrow hcap hfr
    try simp only [go_sem, ↓reduceIte, nQ1, nQ2, nQ3, nQ4, nQ5, nQ6, reduceCtorEq]
    have hpl : ps.length = ou.length := by have := congrArg List.length hfl.1; rw [List.length_map] at this; omega
    have hEd := EdsV.row hrow (by simpa using hcap) (fun q hq => (hfl.2 q hq).mono hle4) (by omega)
    rw [hfl.1, hpl] at hEd
    exact ⟨_, rfl, hEd⟩
 | some fv =>
  simp only [ouSV, ouBlk] at hE hfl ⊢
  (simp only [go_sem] at hE; obtain ⟨e7, e2, e3, e4, e6⟩ := hE; simp only [go_sem, ↓reduceIte, nQ1, nQ2, nQ3, nQ4, nQ5, nQ6, reduceCtorEq, e7, e2, e3, e4, e6]; dsimp only at *)
  refine ⟨fun hlt => ?_, fun hge => ?_⟩
  ·have hlt' : i < o.edits.length := by omega
   obtain ⟨ad, p, hadd, hp1, hR, hpok⟩ := hbf i hlt'
   have hcells : ∀ j u, (p.ed.cells)[j]? = some u → R3 ((ad.add (i * 13)).add j) u := fun j u hj => hle03 _ _ (hR j u hj)
   have hfs := freshD_snoc d.edits o.edits hlt'
   have htk : o.edits.take (i + 1) = o.edits.take i ++ [p.1] := by rw [List.take_succ_eq_append_getElem hlt', ← hp1]
   rw [← hp1] at hfs
   have hpm : p.1 ∈ o.edits := by rw [hp1]; exact List.getElem_mem hlt'
   have hag' : (∀ z ∈ d.edits, keyEq z p.1 = true → z = p.1) → ∀ y ∈ o.edits.take (i + 1), ∀ z ∈ d.edits, keyEq z y = true → z = y := fun h y hy => by
    rw [htk] at hy
    rcases List.mem_append.1 hy with hy | hy
    ·exact hag y hy
    ·simp only [List.mem_cons, List.not_mem_nil, or_false] at hy
     subst hy; exact h
   have hfl1 : (freshD d.edits (o.edits.take i)).length ≤ 4096 := by
    have h1 : (freshD d.edits (o.edits.take i)).length ≤ (o.edits.take i).length := List.length_filter_le _ _
    rw [List.length_take] at h1; omega
   have houl : ou.length ≤ 8192 := by rw [hou, insAll_len]; omega
   have hpsq := hao.1 p.1 hpm
   have hsq := validD_seq hpsq.1
   have htd : p.1.seq.tdiv 64 = p.1.seq / 64 := tdiv_nonneg' (by omega) (by omega)
   refine ⟨by omega, vat ad hadd ?_⟩
   try simp only [go_sem, ↓reduceIte, nQ1, nQ2, nQ3, nQ4, nQ5, nQ6, reduceCtorEq]
   refine vloadn p.ed.cells rfl hcells ?_
   simp only [go_sem, ↓reduceIte, nQ1, nQ2, nQ3, nQ4, nQ5, nQ6, reduceCtorEq, Ed.cells, Pl.ed, De.ed, e7, e2, e3, e4, e6]
   have hF := dFind2 d.edits _ p.1 p.2.1 p.2.2.1 p.2.2.2 R3 (h0.mono hle03)
   simp only [Ed.cells, De.ed] at hF
   refine vcall hF ?_
   rintro R4 v hle4 hfd
   rcases hfd with ⟨rfl, hno⟩ | ⟨q, hq, rfl, hkq⟩
   ·have hany : d.edits.any (keyEq p.1) = false := List.any_eq_false.2 fun x hx => by rw [hno x hx]; simp
    rw [hany, if_neg (by simp)] at hfs
    try simp only [go_sem, ↓reduceIte, nQ1, nQ2, nQ3, nQ4, nQ5, nQ6, reduceCtorEq, iQ1, iQ2, iQ3, iQ4, iQ5, iQ6, e7, e2, e3, e4, e6]
    have hIns := rInserted ou p _ R4 (hfl.mono hle4) (hpok.mono (RO.le_trans hle03 hle4)) (by omega)
    simp only [Ed.val, Ed.cells, Pl.ed, De.ed] at hIns
    refine vcall hIns ?_
    rintro R5 r hle5 hr
    obtain ⟨ra5, rc5, rfl, _⟩ := hr.form
    try simp only [go_sem, ↓reduceIte, nQ1, nQ2, nQ3, nQ4, nQ5, nQ6, reduceCtorEq, iQ1, iQ2, iQ3, iQ4, iQ5, iQ6, e7, e2, e3, e4, e6]
    refine ⟨_, W.in64 (by rw [htd]; omega), ?_⟩
    rw [htd]
    refine ⟨_, W.in64 (by omega), ?_⟩
    try simp only [go_sem, ↓reduceIte, nQ1, nQ2, nQ3, nQ4, nQ5, nQ6, reduceCtorEq, iQ1, iQ2, iQ3, iQ4, iQ5, iQ6, e7, e2, e3, e4, e6]
    refine ⟨_, W.in64 (by omega), (i + 1, max nx (p.1.seq / 64 + 1), insR ou p.1, some (ra5, rc5), []), [], ?_⟩
    simp only [ouSV, ouBlk]
    try simp only [go_sem, ↓reduceIte, nQ1, nQ2, nQ3, nQ4, nQ5, nQ6, reduceCtorEq]
    refine ⟨by omega, (by repeat' (first | rfl | constructor)), by decide, by omega, ?_, ?_, hag' (fun z hz hk => ?_), hr⟩
    ·rw [hfs, List.foldl_append, ← hou]; rfl
    ·rw [hfs, nextD_snoc, ← hnx]
    ·exfalso
     have := hno z hz
     rw [keyEq_symm, hk] at this; cases this
   ·have hany : d.edits.any (keyEq p.1) = true := List.any_eq_true.2 ⟨_, List.getElem_mem hq, hkq⟩
    rw [hany, if_pos rfl, List.append_nil] at hfs
    have hq0 : (0 : Int) ≤ (q : Int) := by omega
    have hq1 : ¬ (q : Int) < 0 := by omega
    try simp only [go_sem, ↓reduceIte, nQ1, nQ2, nQ3, nQ4, nQ5, nQ6, reduceCtorEq, iQ1, iQ2, iQ3, iQ4, iQ5, iQ6, e7, e2, e3, e4, e6, hq0, eq_false hq1]
    obtain ⟨ad2, pq, had2, hpq1, hR2, hpqok⟩ := hf q hq
    refine ⟨by omega, vat ad2 had2 ?_⟩
    try simp only [go_sem, ↓reduceIte, nQ1, nQ2, nQ3, nQ4, nQ5, nQ6, reduceCtorEq]
    refine vloadn pq.ed.cells rfl (fun j u hj => hle4 _ _ (hle03 _ _ (hR2 j u hj))) ?_
    simp only [go_sem, ↓reduceIte, nQ1, nQ2, nQ3, nQ4, nQ5, nQ6, reduceCtorEq, Ed.cells, Pl.ed, De.ed, e7, e2, e3, e4, e6]
    have hSm := eSameR pq.1 p.1 _ _ R4 (PlOK.edV (hpqok.mono (RO.le_trans hle03 hle4))) (PlOK.edV (hpok.mono (RO.le_trans hle03 hle4)))
    simp only [Ed.cells, Pl.ed, De.ed] at hSm
    refine vcall hSm ?_
    rintro R5 v hle5 rfl
    have hkq' : keyEq pq.1 p.1 = true := by rw [hpq1, keyEq_symm]; exact hkq
    have hpqm : pq.1 ∈ d.edits := by rw [hpq1]; exact List.getElem_mem hq
    by_cases hsame : pq.1 = p.1
    ·rw [decide_eq_true hsame]
     try simp only [go_sem, ↓reduceIte, nQ1, nQ2, nQ3, nQ4, nQ5, nQ6, reduceCtorEq, iQ1, iQ2, iQ3, iQ4, iQ5, iQ6, e7, e2, e3, e4, e6, hq0, eq_false hq1]
     refine ⟨_, W.in64 (by omega), (i + 1, nx, ou, some fv, ps), [], ?_⟩
     simp only [ouSV, ouBlk]
     try simp only [go_sem, ↓reduceIte, nQ1, nQ2, nQ3, nQ4, nQ5, nQ6, reduceCtorEq]
     refine ⟨by omega, (by repeat' (first | rfl | constructor)), by decide, by omega, by rw [hfs]; exact hou, by rw [hfs]; exact hnx, hag' (fun z hz hk => ?_), hfl.mono (RO.le_trans hle4 hle5)⟩
     have hKD : KeysD d.edits := had.2.imp fun h => lessD_key h
     have := hKD.eq hz hpqm (by rw [hsame]; exact hk)
     rw [this, hsame]
    ·rw [decide_eq_false hsame]
     try simp only [go_sem, ↓reduceIte, nQ1, nQ2, nQ3, nQ4, nQ5, nQ6, reduceCtorEq, iQ1, iQ2, iQ3, iQ4, iQ5, iQ6, e7, e2, e3, e4, e6, hq0, eq_false hq1]
     have hagf : ¬ agreeD d.edits o.edits = true := fun h => by
      unfold agreeD at h
      have h1 := List.all_eq_true.1 (List.all_eq_true.1 h pq.1 hpqm) p.1 hpm
      rw [hkq'] at h1
      simp at h1
      exact hsame h1
     try rw [if_neg hagf]
     try exact rfl
  ·obtain rfl : i = o.edits.length := by omega
   rw [List.take_length] at hou hnx hag
   rw [ins_union had.2 hao.2] at hou
   have hagt : agreeD d.edits o.edits = true := by
    unfold agreeD
    rw [List.all_eq_true]
    intro x hx
    rw [List.all_eq_true]
    intro y hy
    cases hk : keyEq x y with
    | false => rfl
    | true => simp [hag y hy x hx hk]
   try rw [if_pos hagt]
   rw [← hou, ← hnx]
   refine ⟨fun h1 => ?_, fun h1 => ?_⟩
   ·rw [if_pos (by omega)]; exact rfl
   ·rw [if_neg (by omega)]
    try simp only [go_sem, ↓reduceIte, nQ1, nQ2, nQ3, nQ4, nQ5, nQ6, reduceCtorEq]
    exact ⟨_, rfl, hfl⟩
end Go.Proofs.YtojckjngjfgfdaaGreat
namespace Go.Proofs.YtojckjngjfgfdaaGreat
set_option linter.unusedSimpArgs false
set_option linter.unusedVariables false
open Go.Proofs.YtojckjngjfgfdaaGreat.Vc
/-! ### The reference's Run, Made -/
set_option maxHeartbeats 8000000 in
theorem rRun (w : Wd) (o : Opn) (wv : Value) (R : RO) (h : WdV R wv w) (ho : o.ok) (hep : ∀ i, 0 ≤ w.ep i ∧ w.ep i ≤ 1000000) : CallsR Tryz.prog 66 [wv, .agg o.cells.toArray] R fun R' r => WdV R' r (runW w o) := by
 obtain ⟨x0, x1, x2, y0, y1, y2, rfl, h0, h1, h2, h3, h4, h5⟩ := h
 have hE := fun R' => eEdit o R'
 obtain ⟨xa0, xc0, rfl, _⟩ := h0.form
 obtain ⟨xa1, xc1, rfl, _⟩ := h1.form
 obtain ⟨xa2, xc2, rfl, _⟩ := h2.form
 obtain ⟨ya0, yc0, rfl, _⟩ := h3.form
 obtain ⟨ya1, yc1, rfl, _⟩ := h4.form
 obtain ⟨ya2, yc2, rfl, _⟩ := h5.form
 obtain ⟨hok1, hok2, hok3⟩ := ho
 simp only [wdCells, Opn.cells, Ed.cells, List.cons_append, List.nil_append] at hE ⊢
 refine callsT mix Tryz.func66 comp66 (by simp [Tryz.ntmps66]) ?_; simp only [vc66, rs66]
 (refine cutR ?_ ?_ ?_; rotate_left; (try simp only [go_sem, ↓reduceIte, nQ1, nQ2, nQ3, nQ4, nQ5, nQ6, reduceCtorEq, true_and]; rfl))
 have hkm : o.kind.tmod 6 = o.kind % 6 := tmod_nonneg' hok1.1
 have hbm : 0 ≤ o.b.tmod 3 ∧ o.b.tmod 3 < 3 := by have := tmod_nonneg' (b := 3) hok3.1; omega
 rcases rem3 hok2.1 with ⟨hi, hin⟩ | ⟨hi, hin⟩ | ⟨hi, hin⟩
 ·rw [tCode_seq]
  try simp only [go_sem, ↓reduceIte, nQ1, nQ2, nQ3, nQ4, nQ5, nQ6, reduceCtorEq, iQ1, iQ2, iQ3, iQ4, iQ5, iQ6, hi]
  refine ⟨0, W.in64 (by decide), _, W.in64 (by omega), ?_⟩
  try simp only [go_sem, ↓reduceIte, nQ1, nQ2, nQ3, nQ4, nQ5, nQ6, reduceCtorEq, iQ1, iQ2, iQ3, iQ4, iQ5, iQ6]
  rw [hkm]
  refine ⟨fun k3 => ?_, fun k3 => ⟨fun k4 => ?_, fun k4 => ⟨fun k5 => ?_, fun k5 => ?_⟩⟩⟩
  ·rcases rem3 hok3.1 with ⟨hk, hkn⟩ | ⟨hk, hkn⟩ | ⟨hk, hkn⟩
   ·rw [hk]
    try simp only [go_sem, ↓reduceIte, nQ1, nQ2, nQ3, nQ4, nQ5, nQ6, reduceCtorEq, iQ1, iQ2, iQ3, iQ4, iQ5, iQ6]
    refine vcall (rSyncD w.n0 w.n0 _ _ R h0 h0) ?_
    intro R1 r hle1 hr
    have hrun : runW w o = stepW w 0 (dvSync w.n0 w.n0) := by
     unfold runW Opn.i Opn.k
     rw [if_pos (by omega), hin, hkn]
     rfl
    rw [hrun]
    rcases hr.shape with ⟨e, hx, rfl⟩ | ⟨d, da, dc, hx, rfl, hd⟩
    ·have hne := dvSync_err hx
     rw [hx]
     try simp only [go_sem, ↓reduceIte, nQ1, nQ2, nQ3, nQ4, nQ5, nQ6, reduceCtorEq, iQ1, iQ2, iQ3, iQ4, iQ5, iQ6, eq_false hne]
     exact ⟨_, _, _, _, _, _, rfl, (h0.mono hle1), (h1.mono hle1), (h2.mono hle1), (h3.mono hle1), (h4.mono hle1), (h5.mono hle1)⟩
    ·rw [hx]
     try simp only [go_sem, ↓reduceIte, nQ1, nQ2, nQ3, nQ4, nQ5, nQ6, reduceCtorEq, iQ1, iQ2, iQ3, iQ4, iQ5, iQ6]
     exact ⟨_, _, _, _, _, _, rfl, hd, (h1.mono hle1), (h2.mono hle1), (h3.mono hle1), (h4.mono hle1), (h5.mono hle1)⟩
   ·rw [hk]
    try simp only [go_sem, ↓reduceIte, nQ1, nQ2, nQ3, nQ4, nQ5, nQ6, reduceCtorEq, iQ1, iQ2, iQ3, iQ4, iQ5, iQ6]
    refine vcall (rSyncD w.n0 w.n1 _ _ R h0 h1) ?_
    intro R1 r hle1 hr
    have hrun : runW w o = stepW w 0 (dvSync w.n0 w.n1) := by
     unfold runW Opn.i Opn.k
     rw [if_pos (by omega), hin, hkn]
     rfl
    rw [hrun]
    rcases hr.shape with ⟨e, hx, rfl⟩ | ⟨d, da, dc, hx, rfl, hd⟩
    ·have hne := dvSync_err hx
     rw [hx]
     try simp only [go_sem, ↓reduceIte, nQ1, nQ2, nQ3, nQ4, nQ5, nQ6, reduceCtorEq, iQ1, iQ2, iQ3, iQ4, iQ5, iQ6, eq_false hne]
     exact ⟨_, _, _, _, _, _, rfl, (h0.mono hle1), (h1.mono hle1), (h2.mono hle1), (h3.mono hle1), (h4.mono hle1), (h5.mono hle1)⟩
    ·rw [hx]
     try simp only [go_sem, ↓reduceIte, nQ1, nQ2, nQ3, nQ4, nQ5, nQ6, reduceCtorEq, iQ1, iQ2, iQ3, iQ4, iQ5, iQ6]
     exact ⟨_, _, _, _, _, _, rfl, hd, (h1.mono hle1), (h2.mono hle1), (h3.mono hle1), (h4.mono hle1), (h5.mono hle1)⟩
   ·rw [hk]
    try simp only [go_sem, ↓reduceIte, nQ1, nQ2, nQ3, nQ4, nQ5, nQ6, reduceCtorEq, iQ1, iQ2, iQ3, iQ4, iQ5, iQ6]
    refine vcall (rSyncD w.n0 w.n2 _ _ R h0 h2) ?_
    intro R1 r hle1 hr
    have hrun : runW w o = stepW w 0 (dvSync w.n0 w.n2) := by
     unfold runW Opn.i Opn.k
     rw [if_pos (by omega), hin, hkn]
     rfl
    rw [hrun]
    rcases hr.shape with ⟨e, hx, rfl⟩ | ⟨d, da, dc, hx, rfl, hd⟩
    ·have hne := dvSync_err hx
     rw [hx]
     try simp only [go_sem, ↓reduceIte, nQ1, nQ2, nQ3, nQ4, nQ5, nQ6, reduceCtorEq, iQ1, iQ2, iQ3, iQ4, iQ5, iQ6, eq_false hne]
     exact ⟨_, _, _, _, _, _, rfl, (h0.mono hle1), (h1.mono hle1), (h2.mono hle1), (h3.mono hle1), (h4.mono hle1), (h5.mono hle1)⟩
    ·rw [hx]
     try simp only [go_sem, ↓reduceIte, nQ1, nQ2, nQ3, nQ4, nQ5, nQ6, reduceCtorEq, iQ1, iQ2, iQ3, iQ4, iQ5, iQ6]
     exact ⟨_, _, _, _, _, _, rfl, hd, (h1.mono hle1), (h2.mono hle1), (h3.mono hle1), (h4.mono hle1), (h5.mono hle1)⟩
  ·have hrun : runW w o = w.setCopy w.n0 0 := by
    unfold runW Opn.i
    rw [if_neg (by omega), if_pos (by omega), hin]
    rfl
   rw [hrun]
   exact ⟨_, _, _, _, _, _, rfl, (h0), (h1), (h2), h0, (h4), (h5)⟩
  ·have hrun : runW w o = match dvRestore w.c0 (w.e0 + 1) with
     | .error _ => w
     | .ok d => (w.setEp (w.e0 + 1) 0).setNow d 0 := by
    unfold runW Opn.i
    rw [if_neg (by omega), if_neg (by omega), if_pos (by omega), hin]
    rfl
   rw [hrun]
   have hepi : 0 ≤ w.e0 ∧ w.e0 ≤ 1000000 := hep 0
   refine ⟨_, W.in64 (by omega), ?_⟩
   try simp only [go_sem, ↓reduceIte, nQ1, nQ2, nQ3, nQ4, nQ5, nQ6, reduceCtorEq, iQ1, iQ2, iQ3, iQ4, iQ5, iQ6]
   refine vcall (rRestoreD w.c0 _ (w.e0 + 1) R h3) ?_
   intro R1 r hle1 hr
   rcases hr.shape with ⟨e, hx, rfl⟩ | ⟨d, da, dc, hx, rfl, hd⟩
   ·have hne := dvRestore_err hx
    rw [hx]
    try simp only [go_sem, ↓reduceIte, nQ1, nQ2, nQ3, nQ4, nQ5, nQ6, reduceCtorEq, iQ1, iQ2, iQ3, iQ4, iQ5, iQ6, eq_false hne]
    exact ⟨_, _, _, _, _, _, rfl, (h0.mono hle1), (h1.mono hle1), (h2.mono hle1), (h3.mono hle1), (h4.mono hle1), (h5.mono hle1)⟩
   ·rw [hx]
    try simp only [go_sem, ↓reduceIte, nQ1, nQ2, nQ3, nQ4, nQ5, nQ6, reduceCtorEq, iQ1, iQ2, iQ3, iQ4, iQ5, iQ6]
    refine ⟨_, W.in64 (by omega), ?_⟩
    try simp only [go_sem, ↓reduceIte, nQ1, nQ2, nQ3, nQ4, nQ5, nQ6, reduceCtorEq, iQ1, iQ2, iQ3, iQ4, iQ5, iQ6]
    exact ⟨_, _, _, _, _, _, rfl, hd, (h1.mono hle1), (h2.mono hle1), (h3.mono hle1), (h4.mono hle1), (h5.mono hle1)⟩
  ·have hrun : runW w o = stepW w 0 (dvAdd w.n0 (madeE o.ed)) := by
    unfold runW Opn.i
    rw [if_neg (by omega), if_neg (by omega), if_neg (by omega), hin]
    rfl
   rw [hrun]
   refine vcall (hE R) ?_
   rintro R1 v hle1 ⟨ea, en, ec, rfl, her⟩
   try simp only [go_sem, ↓reduceIte, nQ1, nQ2, nQ3, nQ4, nQ5, nQ6, reduceCtorEq, iQ1, iQ2, iQ3, iQ4, iQ5, iQ6]
   refine vcall (rAddD w.n0 _ (madeE o.ed) ea en ec R1 (h0.mono hle1) her) ?_
   intro R2 r hle2 hr
   have hle12 := RO.le_trans hle1 hle2
   rcases hr.shape with ⟨e, hx, rfl⟩ | ⟨d, da, dc, hx, rfl, hd⟩
   ·have hne := dvAdd_err hx
    rw [hx]
    try simp only [go_sem, ↓reduceIte, nQ1, nQ2, nQ3, nQ4, nQ5, nQ6, reduceCtorEq, iQ1, iQ2, iQ3, iQ4, iQ5, iQ6, eq_false hne]
    exact ⟨_, _, _, _, _, _, rfl, (h0.mono hle12), (h1.mono hle12), (h2.mono hle12), (h3.mono hle12), (h4.mono hle12), (h5.mono hle12)⟩
   ·rw [hx]
    try simp only [go_sem, ↓reduceIte, nQ1, nQ2, nQ3, nQ4, nQ5, nQ6, reduceCtorEq, iQ1, iQ2, iQ3, iQ4, iQ5, iQ6]
    exact ⟨_, _, _, _, _, _, rfl, hd, (h1.mono hle12), (h2.mono hle12), (h3.mono hle12), (h4.mono hle12), (h5.mono hle12)⟩
 ·rw [tCode_seq]
  try simp only [go_sem, ↓reduceIte, nQ1, nQ2, nQ3, nQ4, nQ5, nQ6, reduceCtorEq, iQ1, iQ2, iQ3, iQ4, iQ5, iQ6, hi]
  refine ⟨1, W.in64 (by decide), _, W.in64 (by omega), ?_⟩
  try simp only [go_sem, ↓reduceIte, nQ1, nQ2, nQ3, nQ4, nQ5, nQ6, reduceCtorEq, iQ1, iQ2, iQ3, iQ4, iQ5, iQ6]
  rw [hkm]
  refine ⟨fun k3 => ?_, fun k3 => ⟨fun k4 => ?_, fun k4 => ⟨fun k5 => ?_, fun k5 => ?_⟩⟩⟩
  ·rcases rem3 hok3.1 with ⟨hk, hkn⟩ | ⟨hk, hkn⟩ | ⟨hk, hkn⟩
   ·rw [hk]
    try simp only [go_sem, ↓reduceIte, nQ1, nQ2, nQ3, nQ4, nQ5, nQ6, reduceCtorEq, iQ1, iQ2, iQ3, iQ4, iQ5, iQ6]
    refine vcall (rSyncD w.n1 w.n0 _ _ R h1 h0) ?_
    intro R1 r hle1 hr
    have hrun : runW w o = stepW w 1 (dvSync w.n1 w.n0) := by
     unfold runW Opn.i Opn.k
     rw [if_pos (by omega), hin, hkn]
     rfl
    rw [hrun]
    rcases hr.shape with ⟨e, hx, rfl⟩ | ⟨d, da, dc, hx, rfl, hd⟩
    ·have hne := dvSync_err hx
     rw [hx]
     try simp only [go_sem, ↓reduceIte, nQ1, nQ2, nQ3, nQ4, nQ5, nQ6, reduceCtorEq, iQ1, iQ2, iQ3, iQ4, iQ5, iQ6, eq_false hne]
     exact ⟨_, _, _, _, _, _, rfl, (h0.mono hle1), (h1.mono hle1), (h2.mono hle1), (h3.mono hle1), (h4.mono hle1), (h5.mono hle1)⟩
    ·rw [hx]
     try simp only [go_sem, ↓reduceIte, nQ1, nQ2, nQ3, nQ4, nQ5, nQ6, reduceCtorEq, iQ1, iQ2, iQ3, iQ4, iQ5, iQ6]
     exact ⟨_, _, _, _, _, _, rfl, (h0.mono hle1), hd, (h2.mono hle1), (h3.mono hle1), (h4.mono hle1), (h5.mono hle1)⟩
   ·rw [hk]
    try simp only [go_sem, ↓reduceIte, nQ1, nQ2, nQ3, nQ4, nQ5, nQ6, reduceCtorEq, iQ1, iQ2, iQ3, iQ4, iQ5, iQ6]
    refine vcall (rSyncD w.n1 w.n1 _ _ R h1 h1) ?_
    intro R1 r hle1 hr
    have hrun : runW w o = stepW w 1 (dvSync w.n1 w.n1) := by
     unfold runW Opn.i Opn.k
     rw [if_pos (by omega), hin, hkn]
     rfl
    rw [hrun]
    rcases hr.shape with ⟨e, hx, rfl⟩ | ⟨d, da, dc, hx, rfl, hd⟩
    ·have hne := dvSync_err hx
     rw [hx]
     try simp only [go_sem, ↓reduceIte, nQ1, nQ2, nQ3, nQ4, nQ5, nQ6, reduceCtorEq, iQ1, iQ2, iQ3, iQ4, iQ5, iQ6, eq_false hne]
     exact ⟨_, _, _, _, _, _, rfl, (h0.mono hle1), (h1.mono hle1), (h2.mono hle1), (h3.mono hle1), (h4.mono hle1), (h5.mono hle1)⟩
    ·rw [hx]
     try simp only [go_sem, ↓reduceIte, nQ1, nQ2, nQ3, nQ4, nQ5, nQ6, reduceCtorEq, iQ1, iQ2, iQ3, iQ4, iQ5, iQ6]
     exact ⟨_, _, _, _, _, _, rfl, (h0.mono hle1), hd, (h2.mono hle1), (h3.mono hle1), (h4.mono hle1), (h5.mono hle1)⟩
   ·rw [hk]
    try simp only [go_sem, ↓reduceIte, nQ1, nQ2, nQ3, nQ4, nQ5, nQ6, reduceCtorEq, iQ1, iQ2, iQ3, iQ4, iQ5, iQ6]
    refine vcall (rSyncD w.n1 w.n2 _ _ R h1 h2) ?_
    intro R1 r hle1 hr
    have hrun : runW w o = stepW w 1 (dvSync w.n1 w.n2) := by
     unfold runW Opn.i Opn.k
     rw [if_pos (by omega), hin, hkn]
     rfl
    rw [hrun]
    rcases hr.shape with ⟨e, hx, rfl⟩ | ⟨d, da, dc, hx, rfl, hd⟩
    ·have hne := dvSync_err hx
     rw [hx]
     try simp only [go_sem, ↓reduceIte, nQ1, nQ2, nQ3, nQ4, nQ5, nQ6, reduceCtorEq, iQ1, iQ2, iQ3, iQ4, iQ5, iQ6, eq_false hne]
     exact ⟨_, _, _, _, _, _, rfl, (h0.mono hle1), (h1.mono hle1), (h2.mono hle1), (h3.mono hle1), (h4.mono hle1), (h5.mono hle1)⟩
    ·rw [hx]
     try simp only [go_sem, ↓reduceIte, nQ1, nQ2, nQ3, nQ4, nQ5, nQ6, reduceCtorEq, iQ1, iQ2, iQ3, iQ4, iQ5, iQ6]
     exact ⟨_, _, _, _, _, _, rfl, (h0.mono hle1), hd, (h2.mono hle1), (h3.mono hle1), (h4.mono hle1), (h5.mono hle1)⟩
  ·have hrun : runW w o = w.setCopy w.n1 1 := by
    unfold runW Opn.i
    rw [if_neg (by omega), if_pos (by omega), hin]
    rfl
   rw [hrun]
   exact ⟨_, _, _, _, _, _, rfl, (h0), (h1), (h2), (h3), h1, (h5)⟩
  ·have hrun : runW w o = match dvRestore w.c1 (w.e1 + 1) with
     | .error _ => w
     | .ok d => (w.setEp (w.e1 + 1) 1).setNow d 1 := by
    unfold runW Opn.i
    rw [if_neg (by omega), if_neg (by omega), if_pos (by omega), hin]
    rfl
   rw [hrun]
   have hepi : 0 ≤ w.e1 ∧ w.e1 ≤ 1000000 := hep 1
   refine ⟨_, W.in64 (by omega), ?_⟩
   try simp only [go_sem, ↓reduceIte, nQ1, nQ2, nQ3, nQ4, nQ5, nQ6, reduceCtorEq, iQ1, iQ2, iQ3, iQ4, iQ5, iQ6]
   refine vcall (rRestoreD w.c1 _ (w.e1 + 1) R h4) ?_
   intro R1 r hle1 hr
   rcases hr.shape with ⟨e, hx, rfl⟩ | ⟨d, da, dc, hx, rfl, hd⟩
   ·have hne := dvRestore_err hx
    rw [hx]
    try simp only [go_sem, ↓reduceIte, nQ1, nQ2, nQ3, nQ4, nQ5, nQ6, reduceCtorEq, iQ1, iQ2, iQ3, iQ4, iQ5, iQ6, eq_false hne]
    exact ⟨_, _, _, _, _, _, rfl, (h0.mono hle1), (h1.mono hle1), (h2.mono hle1), (h3.mono hle1), (h4.mono hle1), (h5.mono hle1)⟩
   ·rw [hx]
    try simp only [go_sem, ↓reduceIte, nQ1, nQ2, nQ3, nQ4, nQ5, nQ6, reduceCtorEq, iQ1, iQ2, iQ3, iQ4, iQ5, iQ6]
    refine ⟨_, W.in64 (by omega), ?_⟩
    try simp only [go_sem, ↓reduceIte, nQ1, nQ2, nQ3, nQ4, nQ5, nQ6, reduceCtorEq, iQ1, iQ2, iQ3, iQ4, iQ5, iQ6]
    exact ⟨_, _, _, _, _, _, rfl, (h0.mono hle1), hd, (h2.mono hle1), (h3.mono hle1), (h4.mono hle1), (h5.mono hle1)⟩
  ·have hrun : runW w o = stepW w 1 (dvAdd w.n1 (madeE o.ed)) := by
    unfold runW Opn.i
    rw [if_neg (by omega), if_neg (by omega), if_neg (by omega), hin]
    rfl
   rw [hrun]
   refine vcall (hE R) ?_
   rintro R1 v hle1 ⟨ea, en, ec, rfl, her⟩
   try simp only [go_sem, ↓reduceIte, nQ1, nQ2, nQ3, nQ4, nQ5, nQ6, reduceCtorEq, iQ1, iQ2, iQ3, iQ4, iQ5, iQ6]
   refine vcall (rAddD w.n1 _ (madeE o.ed) ea en ec R1 (h1.mono hle1) her) ?_
   intro R2 r hle2 hr
   have hle12 := RO.le_trans hle1 hle2
   rcases hr.shape with ⟨e, hx, rfl⟩ | ⟨d, da, dc, hx, rfl, hd⟩
   ·have hne := dvAdd_err hx
    rw [hx]
    try simp only [go_sem, ↓reduceIte, nQ1, nQ2, nQ3, nQ4, nQ5, nQ6, reduceCtorEq, iQ1, iQ2, iQ3, iQ4, iQ5, iQ6, eq_false hne]
    exact ⟨_, _, _, _, _, _, rfl, (h0.mono hle12), (h1.mono hle12), (h2.mono hle12), (h3.mono hle12), (h4.mono hle12), (h5.mono hle12)⟩
   ·rw [hx]
    try simp only [go_sem, ↓reduceIte, nQ1, nQ2, nQ3, nQ4, nQ5, nQ6, reduceCtorEq, iQ1, iQ2, iQ3, iQ4, iQ5, iQ6]
    exact ⟨_, _, _, _, _, _, rfl, (h0.mono hle12), hd, (h2.mono hle12), (h3.mono hle12), (h4.mono hle12), (h5.mono hle12)⟩
 ·rw [tCode_seq]
  try simp only [go_sem, ↓reduceIte, nQ1, nQ2, nQ3, nQ4, nQ5, nQ6, reduceCtorEq, iQ1, iQ2, iQ3, iQ4, iQ5, iQ6, hi]
  refine ⟨2, W.in64 (by decide), _, W.in64 (by omega), ?_⟩
  try simp only [go_sem, ↓reduceIte, nQ1, nQ2, nQ3, nQ4, nQ5, nQ6, reduceCtorEq, iQ1, iQ2, iQ3, iQ4, iQ5, iQ6]
  rw [hkm]
  refine ⟨fun k3 => ?_, fun k3 => ⟨fun k4 => ?_, fun k4 => ⟨fun k5 => ?_, fun k5 => ?_⟩⟩⟩
  ·rcases rem3 hok3.1 with ⟨hk, hkn⟩ | ⟨hk, hkn⟩ | ⟨hk, hkn⟩
   ·rw [hk]
    try simp only [go_sem, ↓reduceIte, nQ1, nQ2, nQ3, nQ4, nQ5, nQ6, reduceCtorEq, iQ1, iQ2, iQ3, iQ4, iQ5, iQ6]
    refine vcall (rSyncD w.n2 w.n0 _ _ R h2 h0) ?_
    intro R1 r hle1 hr
    have hrun : runW w o = stepW w 2 (dvSync w.n2 w.n0) := by
     unfold runW Opn.i Opn.k
     rw [if_pos (by omega), hin, hkn]
     rfl
    rw [hrun]
    rcases hr.shape with ⟨e, hx, rfl⟩ | ⟨d, da, dc, hx, rfl, hd⟩
    ·have hne := dvSync_err hx
     rw [hx]
     try simp only [go_sem, ↓reduceIte, nQ1, nQ2, nQ3, nQ4, nQ5, nQ6, reduceCtorEq, iQ1, iQ2, iQ3, iQ4, iQ5, iQ6, eq_false hne]
     exact ⟨_, _, _, _, _, _, rfl, (h0.mono hle1), (h1.mono hle1), (h2.mono hle1), (h3.mono hle1), (h4.mono hle1), (h5.mono hle1)⟩
    ·rw [hx]
     try simp only [go_sem, ↓reduceIte, nQ1, nQ2, nQ3, nQ4, nQ5, nQ6, reduceCtorEq, iQ1, iQ2, iQ3, iQ4, iQ5, iQ6]
     exact ⟨_, _, _, _, _, _, rfl, (h0.mono hle1), (h1.mono hle1), hd, (h3.mono hle1), (h4.mono hle1), (h5.mono hle1)⟩
   ·rw [hk]
    try simp only [go_sem, ↓reduceIte, nQ1, nQ2, nQ3, nQ4, nQ5, nQ6, reduceCtorEq, iQ1, iQ2, iQ3, iQ4, iQ5, iQ6]
    refine vcall (rSyncD w.n2 w.n1 _ _ R h2 h1) ?_
    intro R1 r hle1 hr
    have hrun : runW w o = stepW w 2 (dvSync w.n2 w.n1) := by
     unfold runW Opn.i Opn.k
     rw [if_pos (by omega), hin, hkn]
     rfl
    rw [hrun]
    rcases hr.shape with ⟨e, hx, rfl⟩ | ⟨d, da, dc, hx, rfl, hd⟩
    ·have hne := dvSync_err hx
     rw [hx]
     try simp only [go_sem, ↓reduceIte, nQ1, nQ2, nQ3, nQ4, nQ5, nQ6, reduceCtorEq, iQ1, iQ2, iQ3, iQ4, iQ5, iQ6, eq_false hne]
     exact ⟨_, _, _, _, _, _, rfl, (h0.mono hle1), (h1.mono hle1), (h2.mono hle1), (h3.mono hle1), (h4.mono hle1), (h5.mono hle1)⟩
    ·rw [hx]
     try simp only [go_sem, ↓reduceIte, nQ1, nQ2, nQ3, nQ4, nQ5, nQ6, reduceCtorEq, iQ1, iQ2, iQ3, iQ4, iQ5, iQ6]
     exact ⟨_, _, _, _, _, _, rfl, (h0.mono hle1), (h1.mono hle1), hd, (h3.mono hle1), (h4.mono hle1), (h5.mono hle1)⟩
   ·rw [hk]
    try simp only [go_sem, ↓reduceIte, nQ1, nQ2, nQ3, nQ4, nQ5, nQ6, reduceCtorEq, iQ1, iQ2, iQ3, iQ4, iQ5, iQ6]
    refine vcall (rSyncD w.n2 w.n2 _ _ R h2 h2) ?_
    intro R1 r hle1 hr
    have hrun : runW w o = stepW w 2 (dvSync w.n2 w.n2) := by
     unfold runW Opn.i Opn.k
     rw [if_pos (by omega), hin, hkn]
     rfl
    rw [hrun]
    rcases hr.shape with ⟨e, hx, rfl⟩ | ⟨d, da, dc, hx, rfl, hd⟩
    ·have hne := dvSync_err hx
     rw [hx]
     try simp only [go_sem, ↓reduceIte, nQ1, nQ2, nQ3, nQ4, nQ5, nQ6, reduceCtorEq, iQ1, iQ2, iQ3, iQ4, iQ5, iQ6, eq_false hne]
     exact ⟨_, _, _, _, _, _, rfl, (h0.mono hle1), (h1.mono hle1), (h2.mono hle1), (h3.mono hle1), (h4.mono hle1), (h5.mono hle1)⟩
    ·rw [hx]
     try simp only [go_sem, ↓reduceIte, nQ1, nQ2, nQ3, nQ4, nQ5, nQ6, reduceCtorEq, iQ1, iQ2, iQ3, iQ4, iQ5, iQ6]
     exact ⟨_, _, _, _, _, _, rfl, (h0.mono hle1), (h1.mono hle1), hd, (h3.mono hle1), (h4.mono hle1), (h5.mono hle1)⟩
  ·have hrun : runW w o = w.setCopy w.n2 2 := by
    unfold runW Opn.i
    rw [if_neg (by omega), if_pos (by omega), hin]
    rfl
   rw [hrun]
   exact ⟨_, _, _, _, _, _, rfl, (h0), (h1), (h2), (h3), (h4), h2⟩
  ·have hrun : runW w o = match dvRestore w.c2 (w.e2 + 1) with
     | .error _ => w
     | .ok d => (w.setEp (w.e2 + 1) 2).setNow d 2 := by
    unfold runW Opn.i
    rw [if_neg (by omega), if_neg (by omega), if_pos (by omega), hin]
    rfl
   rw [hrun]
   have hepi : 0 ≤ w.e2 ∧ w.e2 ≤ 1000000 := hep 2
   refine ⟨_, W.in64 (by omega), ?_⟩
   try simp only [go_sem, ↓reduceIte, nQ1, nQ2, nQ3, nQ4, nQ5, nQ6, reduceCtorEq, iQ1, iQ2, iQ3, iQ4, iQ5, iQ6]
   refine vcall (rRestoreD w.c2 _ (w.e2 + 1) R h5) ?_
   intro R1 r hle1 hr
   rcases hr.shape with ⟨e, hx, rfl⟩ | ⟨d, da, dc, hx, rfl, hd⟩
   ·have hne := dvRestore_err hx
    rw [hx]
    try simp only [go_sem, ↓reduceIte, nQ1, nQ2, nQ3, nQ4, nQ5, nQ6, reduceCtorEq, iQ1, iQ2, iQ3, iQ4, iQ5, iQ6, eq_false hne]
    exact ⟨_, _, _, _, _, _, rfl, (h0.mono hle1), (h1.mono hle1), (h2.mono hle1), (h3.mono hle1), (h4.mono hle1), (h5.mono hle1)⟩
   ·rw [hx]
    try simp only [go_sem, ↓reduceIte, nQ1, nQ2, nQ3, nQ4, nQ5, nQ6, reduceCtorEq, iQ1, iQ2, iQ3, iQ4, iQ5, iQ6]
    refine ⟨_, W.in64 (by omega), ?_⟩
    try simp only [go_sem, ↓reduceIte, nQ1, nQ2, nQ3, nQ4, nQ5, nQ6, reduceCtorEq, iQ1, iQ2, iQ3, iQ4, iQ5, iQ6]
    exact ⟨_, _, _, _, _, _, rfl, (h0.mono hle1), (h1.mono hle1), hd, (h3.mono hle1), (h4.mono hle1), (h5.mono hle1)⟩
  ·have hrun : runW w o = stepW w 2 (dvAdd w.n2 (madeE o.ed)) := by
    unfold runW Opn.i
    rw [if_neg (by omega), if_neg (by omega), if_neg (by omega), hin]
    rfl
   rw [hrun]
   refine vcall (hE R) ?_
   rintro R1 v hle1 ⟨ea, en, ec, rfl, her⟩
   try simp only [go_sem, ↓reduceIte, nQ1, nQ2, nQ3, nQ4, nQ5, nQ6, reduceCtorEq, iQ1, iQ2, iQ3, iQ4, iQ5, iQ6]
   refine vcall (rAddD w.n2 _ (madeE o.ed) ea en ec R1 (h2.mono hle1) her) ?_
   intro R2 r hle2 hr
   have hle12 := RO.le_trans hle1 hle2
   rcases hr.shape with ⟨e, hx, rfl⟩ | ⟨d, da, dc, hx, rfl, hd⟩
   ·have hne := dvAdd_err hx
    rw [hx]
    try simp only [go_sem, ↓reduceIte, nQ1, nQ2, nQ3, nQ4, nQ5, nQ6, reduceCtorEq, iQ1, iQ2, iQ3, iQ4, iQ5, iQ6, eq_false hne]
    exact ⟨_, _, _, _, _, _, rfl, (h0.mono hle12), (h1.mono hle12), (h2.mono hle12), (h3.mono hle12), (h4.mono hle12), (h5.mono hle12)⟩
   ·rw [hx]
    try simp only [go_sem, ↓reduceIte, nQ1, nQ2, nQ3, nQ4, nQ5, nQ6, reduceCtorEq, iQ1, iQ2, iQ3, iQ4, iQ5, iQ6]
    exact ⟨_, _, _, _, _, _, rfl, (h0.mono hle12), (h1.mono hle12), hd, (h3.mono hle12), (h4.mono hle12), (h5.mono hle12)⟩
set_option maxHeartbeats 1000000 in
theorem rMade (os : List Opn) (v : Value) (R : RO) (h : OpC R v os) : CallsR Tryz.prog 28 [v] R fun R' u => WdV R' u (playW os) := by
 obtain ⟨a, cap, rfl, hc, hf⟩ := h.form
 obtain ⟨_, hok, hl⟩ := h
 refine callsT mix Tryz.func28 comp28 (by simp [Tryz.ntmps28]) ?_; simp only [go_sem, ↓reduceIte, nQ1, nQ2, nQ3, nQ4, nQ5, nQ6, reduceCtorEq, vc28, rs28]
 refine vcall (eStart R) ?_
 rintro R1 u hle1 ⟨x0, x1, x2, y0, y1, y2, rfl, h0, h1, h2, h3, h4, h5⟩
 obtain ⟨a0, c0, rfl, _⟩ := h0.form
 obtain ⟨a1, c1, rfl, _⟩ := h1.form
 obtain ⟨a2, c2, rfl, _⟩ := h2.form
 obtain ⟨a3, c3, rfl, _⟩ := h3.form
 obtain ⟨a4, c4, rfl, _⟩ := h4.form
 obtain ⟨a5, c5, rfl, _⟩ := h5.form
 simp only [wdCells]
 try simp only [go_sem, ↓reduceIte, nQ1, nQ2, nQ3, nQ4, nQ5, nQ6, reduceCtorEq]
 refine vcLoopR (Nat × (List Value)) (fun x => [(4, .val (.int .i64 x.1)), (0, .val (.slice a os.length cap)), (2, .loc 0 0), (3, .loc 1 0)])
  (fun x => [.box (boxc zeroWd), .box (boxc x.2)])
  (fun x R => x.1 ≤ os.length ∧ x.1 ≤ 12 ∧ WdV R (.agg x.2.toArray) ((os.take x.1).foldl runW startW)) (fun x => os.length - x.1) (0, wdCells startW (.slice a0 0 c0) (.slice a1 0 c1) (.slice a2 0 c2) (.slice a3 0 c3) (.slice a4 0 c4) (.slice a5 0 c5)) [] ?_ ?_ ?_ ?_
 ·(try simp only [go_sem, ↓reduceIte, nQ1, nQ2, nQ3, nQ4, nQ5, nQ6, reduceCtorEq]) <;> (repeat' (first | rfl | trivial | constructor | (intro h; exact absurd rfl h)))
 ·try simp only [go_sem, ↓reduceIte, nQ1, nQ2, nQ3, nQ4, nQ5, nQ6, reduceCtorEq]
  exact ⟨boxc_ok _ _, boxc_ok _ _⟩
 ·exact ⟨Nat.zero_le _, Nat.zero_le _, _, _, _, _, _, _, rfl, h0, h1, h2, h3, h4, h5⟩
 rintro ⟨i, xs⟩ env R2 hle2 hE ⟨hi, hi12, hW⟩
 simp only [] at hW
 obtain ⟨n, M, hn, hI⟩ := inv_take os i (by omega)
 have hend : ¬ (i < os.length ∧ i < 12) → (os.take i).foldl runW startW = playW os := fun hn => by
  unfold playW
  by_cases h12 : i = 12
  ·rw [h12]
  ·rw [List.take_of_length_le (by omega), List.take_of_length_le (by omega)]
 obtain ⟨w, hw⟩ : ∃ w, w = (os.take i).foldl runW startW := ⟨_, rfl⟩
 rw [← hw] at hW hend hI
 obtain ⟨x0, x1, x2, y0, y1, y2, e, h0, h1, h2, h3, h4, h5⟩ := hW
 have e := congrArg Array.toList (Value.agg.inj e)
 rw [List.toList_toArray, List.toList_toArray] at e
 subst e
 simp only [wdCells, zeroWd, boxc, List.map_cons, List.map_nil] at hE ⊢
 obtain ⟨a0, c0, rfl, _⟩ := h0.form
 obtain ⟨a1, c1, rfl, _⟩ := h1.form
 obtain ⟨a2, c2, rfl, _⟩ := h2.form
 obtain ⟨a3, c3, rfl, _⟩ := h3.form
 obtain ⟨a4, c4, rfl, _⟩ := h4.form
 obtain ⟨a5, c5, rfl, _⟩ := h5.form
 (simp only [go_sem] at hE; obtain ⟨e4, e0, e2, e3⟩ := hE; simp only [go_sem, ↓reduceIte, nQ1, nQ2, nQ3, nQ4, nQ5, nQ6, reduceCtorEq, e4, e0, e2, e3]; dsimp only at *)
 have hret : ¬ (i < os.length ∧ i < 12) → WdV R2 (.agg (wdCells w (.slice a0 w.n0.edits.length c0) (.slice a1 w.n1.edits.length c1) (.slice a2 w.n2.edits.length c2) (.slice a3 w.c0.edits.length c3) (.slice a4 w.c1.edits.length c4) (.slice a5 w.c2.edits.length c5)).toArray) (playW os) := fun hx => by
  rw [← hend hx]
  exact ⟨_, _, _, _, _, _, rfl, h0, h1, h2, h3, h4, h5⟩
 refine ⟨fun hlt => ⟨fun hlt2 => ?_, fun hge => hret (by omega)⟩, fun hge => hret (by omega)⟩
 have hlt' : i < os.length := by omega
 obtain ⟨ad, had, hR⟩ := hf i hlt'
 have hM := fun v h => rRun w os[i] v R2 h (hok _ (List.getElem_mem hlt')) (hI.eps hn)
 have hM := hM _ ⟨_, _, _, _, _, _, rfl, h0, h1, h2, h3, h4, h5⟩
 simp only [wdCells] at hM
 refine ⟨by omega, vat ad had ?_⟩
 try simp only [go_sem, ↓reduceIte, nQ1, nQ2, nQ3, nQ4, nQ5, nQ6, reduceCtorEq]
 refine vloadn (os[i]).cells rfl (fun j u hj => hle2 _ _ (hle1 _ _ (hR j u hj))) ?_
 simp only [go_sem, ↓reduceIte, nQ1, nQ2, nQ3, nQ4, nQ5, nQ6, reduceCtorEq, Ed.cells, e4, e0, e2, e3]
 refine vcall hM ?_
 rintro R3 u hle3 ⟨z0, z1, z2, z3, z4, z5, rfl, g0, g1, g2, g3, g4, g5⟩
 obtain ⟨a0, c0, rfl, _⟩ := g0.form
 obtain ⟨a1, c1, rfl, _⟩ := g1.form
 obtain ⟨a2, c2, rfl, _⟩ := g2.form
 obtain ⟨a3, c3, rfl, _⟩ := g3.form
 obtain ⟨a4, c4, rfl, _⟩ := g4.form
 obtain ⟨a5, c5, rfl, _⟩ := g5.form
 simp only [wdCells]
 simp only [go_sem, ↓reduceIte, nQ1, nQ2, nQ3, nQ4, nQ5, nQ6, reduceCtorEq, e4, e0, e2, e3]
 refine ⟨_, W.in64 (by omega), (i + 1, wdCells (runW w os[i]) (.slice a0 (runW w os[i]).n0.edits.length c0) (.slice a1 (runW w os[i]).n1.edits.length c1) (.slice a2 (runW w os[i]).n2.edits.length c2) (.slice a3 (runW w os[i]).c0.edits.length c3) (.slice a4 (runW w os[i]).c1.edits.length c4) (.slice a5 (runW w os[i]).c2.edits.length c5)), [], ?_⟩
 try simp only [go_sem, ↓reduceIte, nQ1, nQ2, nQ3, nQ4, nQ5, nQ6, reduceCtorEq]
 refine ⟨by omega, ⟨rfl, rfl⟩, ⟨boxc_ok _ _, by decide⟩, by omega, by omega, ?_⟩
 rw [playW_snoc os i hlt', ← hw]
 exact ⟨_, _, _, _, _, _, rfl, g0, g1, g2, g3, g4, g5⟩
end Go.Proofs.YtojckjngjfgfdaaGreat
namespace Go.Proofs.YtojckjngjfgfdaaGreat
set_option linter.unusedSimpArgs false
set_option linter.unusedVariables false
open Go.Proofs.YtojckjngjfgfdaaGreat.Vc
def vc4 : VCode := (.seq (.ops [⟨(some 6), none, (.mov (.const (.bool false)))⟩]) (.seq (.ops [⟨(some 18), none, (.call true 13 [])⟩, ⟨(some 7), none, (.mov (.tmp 18))⟩]) (.seq (.ops [⟨(some 19), none, (.mov (.tmp 0))⟩, ⟨(some 20), none, (.call true 27 [(.tmp 19)])⟩, ⟨(some 21), none, (.mov (.tmp 0))⟩, ⟨(some 22), none, (.call true 28 [(.tmp 21)])⟩, ⟨(some 8), none, (.alloc [(.int .i64 0), (.int .i64 0), (.int .i64 0), (.slice none 0 0), (.int .i64 0), (.int .i64 0), (.int .i64 0), (.slice none 0 0), (.int .i64 0), (.int .i64 0), (.int .i64 0), (.slice none 0 0), (.int .i64 0), (.int .i64 0), (.int .i64 0), (.slice none 0 0), (.int .i64 0), (.int .i64 0), (.int .i64 0), (.slice none 0 0), (.int .i64 0), (.int .i64 0), (.int .i64 0), (.slice none 0 0), (.int .i64 0), (.int .i64 0), (.int .i64 0)])⟩, ⟨(some 9), none, (.alloc [(.int .i64 0), (.int .i64 0), (.int .i64 0), (.slice none 0 0), (.int .i64 0), (.int .i64 0), (.int .i64 0), (.slice none 0 0), (.int .i64 0), (.int .i64 0), (.int .i64 0), (.slice none 0 0), (.int .i64 0), (.int .i64 0), (.int .i64 0), (.slice none 0 0), (.int .i64 0), (.int .i64 0), (.int .i64 0), (.slice none 0 0), (.int .i64 0), (.int .i64 0), (.int .i64 0), (.slice none 0 0), (.int .i64 0), (.int .i64 0), (.int .i64 0)])⟩, ⟨none, none, (.store 27 (.tmp 8) (.tmp 20))⟩, ⟨none, none, (.store 27 (.tmp 9) (.tmp 22))⟩]) (.seq (.ops [⟨(some 23), none, (.mov (.tmp 1))⟩, ⟨(some 24), none, (.mov (.tmp 2))⟩, ⟨(some 25), none, (.call true 29 [(.tmp 23), (.tmp 24)])⟩, ⟨(some 10), none, (.alloc [(.slice none 0 0), (.int .i64 0), (.int .i64 0), (.string (⟨#[]⟩ : ByteArray)), (.int .i64 0), (.int .i64 0), (.slice none 0 0)])⟩, ⟨none, none, (.store 7 (.tmp 10) (.tmp 25))⟩]) (.seq (.seq (.ops [⟨(some 11), none, (.mov (.const (.int .i64 0)))⟩]) (.block 0 (.loop (.seq (.seq (.ops [⟨(some 26), none, (.mov (.tmp 11))⟩, ⟨(some 27), none, (.bin .lss (.tmp 26) (.const (.int .i64 3)))⟩]) (.cond (.tmp 27) .skip (.exit 0))) (.seq (.block 1 (.seq (.seq (.ops [⟨(some 30), none, (.mov (.tmp 11))⟩, ⟨(some 31), none, (.faddr (.tmp 8) 0)⟩, ⟨(some 32), none, (.iaddrA (.tmp 31) (.tmp 30) 3 4)⟩, ⟨(some 33), none, (.load (some 4) (.tmp 32))⟩, ⟨(some 34), none, (.mov (.tmp 11))⟩, ⟨(some 35), none, (.faddr (.tmp 9) 0)⟩, ⟨(some 36), none, (.iaddrA (.tmp 35) (.tmp 34) 3 4)⟩, ⟨(some 37), none, (.load (some 4) (.tmp 36))⟩, ⟨(some 38), none, (.call false 23 [(.tmp 33), (.tmp 37)])⟩, ⟨(some 39), none, (.un .not (.tmp 38))⟩, ⟨(some 40), none, (.mov (.tmp 39))⟩, ⟨(some 41), (some (40, false)), (.mov (.tmp 11))⟩, ⟨(some 42), (some (40, false)), (.faddr (.tmp 8) 12)⟩, ⟨(some 43), (some (40, false)), (.iaddrA (.tmp 42) (.tmp 41) 3 4)⟩, ⟨(some 44), (some (40, false)), (.load (some 4) (.tmp 43))⟩, ⟨(some 45), (some (40, false)), (.mov (.tmp 11))⟩, ⟨(some 46), (some (40, false)), (.faddr (.tmp 9) 12)⟩, ⟨(some 47), (some (40, false)), (.iaddrA (.tmp 46) (.tmp 45) 3 4)⟩, ⟨(some 48), (some (40, false)), (.load (some 4) (.tmp 47))⟩, ⟨(some 49), (some (40, false)), (.call false 23 [(.tmp 44), (.tmp 48)])⟩, ⟨(some 50), (some (40, false)), (.un .not (.tmp 49))⟩, ⟨(some 51), none, (.pick (.tmp 40) (.const (.bool true)) (.tmp 50))⟩]) (.cond (.tmp 51) (.seq (.ops [⟨(some 6), none, (.mov (.const (.bool false)))⟩]) .ret) .skip)) (.seq (.ops [⟨(some 53), none, (.load (some 7) (.tmp 10))⟩, ⟨(some 54), none, (.mov (.tmp 11))⟩, ⟨(some 55), none, (.faddr (.tmp 8) 0)⟩, ⟨(some 56), none, (.iaddrA (.tmp 55) (.tmp 54) 3 4)⟩, ⟨(some 57), none, (.load (some 4) (.tmp 56))⟩, ⟨(some 58), none, (.call false 30 [(.tmp 53), (.tmp 57)])⟩, ⟨(some 52), none, (.mov (.tmp 58))⟩, ⟨(some 59), none, (.extr (.tmp 52) 0)⟩, ⟨(some 60), none, (.extr (.tmp 52) 1)⟩, ⟨(some 61), none, (.extr (.tmp 52) 2)⟩, ⟨(some 12), none, (.mov (.tmp 59))⟩, ⟨(some 13), none, (.mov (.tmp 60))⟩, ⟨(some 14), none, (.mov (.tmp 61))⟩]) (.seq (.ops [⟨(some 63), none, (.load (some 7) (.tmp 10))⟩, ⟨(some 64), none, (.mov (.tmp 11))⟩, ⟨(some 65), none, (.faddr (.tmp 9) 0)⟩, ⟨(some 66), none, (.iaddrA (.tmp 65) (.tmp 64) 3 4)⟩, ⟨(some 67), none, (.faddr (.tmp 66) 3)⟩, ⟨(some 68), none, (.load none (.tmp 67))⟩, ⟨(some 69), none, (.call false 31 [(.tmp 63), (.tmp 68)])⟩, ⟨(some 62), none, (.mov (.tmp 69))⟩, ⟨(some 70), none, (.extr (.tmp 62) 0)⟩, ⟨(some 71), none, (.extr (.tmp 62) 1)⟩, ⟨(some 15), none, (.mov (.tmp 70))⟩, ⟨(some 16), none, (.mov (.tmp 71))⟩]) (.seq (.ops [⟨(some 72), none, (.mov (.tmp 11))⟩, ⟨(some 73), none, (.faddr (.tmp 9) 0)⟩, ⟨(some 74), none, (.iaddrA (.tmp 73) (.tmp 72) 3 4)⟩, ⟨(some 75), none, (.faddr (.tmp 74) 3)⟩, ⟨(some 76), none, (.load none (.tmp 75))⟩, ⟨(some 77), none, (.call true 32 [(.tmp 76)])⟩, ⟨(some 17), none, (.alloc [(.slice none 0 0), (.slice none 0 0), (.int .i64 0)])⟩, ⟨none, none, (.store 3 (.tmp 17) (.tmp 77))⟩]) (.seq (.ops [⟨(some 78), none, (.mov (.tmp 14))⟩, ⟨(some 79), none, (.mov (.tmp 16))⟩, ⟨(some 80), none, (.bin .neq (.tmp 78) (.tmp 79))⟩, ⟨(some 81), none, (.mov (.tmp 80))⟩, ⟨(some 82), (some (81, false)), (.mov (.tmp 14))⟩, ⟨(some 83), (some (81, false)), (.bin .eql (.tmp 82) (.const (.int .i64 0)))⟩, ⟨(some 84), (some (81, false)), (.mov (.tmp 83))⟩, ⟨(some 85), (some (84, true)), (.mov (.tmp 12))⟩, ⟨(some 86), (some (84, true)), (.mov (.tmp 15))⟩, ⟨(some 87), (some (84, true)), (.call true 33 [(.tmp 85), (.tmp 86)])⟩, ⟨(some 88), (some (84, true)), (.un .not (.tmp 87))⟩, ⟨(some 89), (some (84, true)), (.mov (.tmp 88))⟩, ⟨(some 90), (some (89, false)), (.mov (.tmp 13))⟩, ⟨(some 91), (some (89, false)), (.faddr (.tmp 17) 1)⟩, ⟨(some 92), (some (89, false)), (.load none (.tmp 91))⟩, ⟨(some 93), (some (89, false)), (.call true 34 [(.tmp 90), (.tmp 92)])⟩, ⟨(some 94), (some (89, false)), (.un .not (.tmp 93))⟩, ⟨(some 95), (some (84, true)), (.pick (.tmp 89) (.const (.bool true)) (.tmp 94))⟩, ⟨(some 96), (some (81, false)), (.pick (.tmp 84) (.tmp 95) (.const (.bool false)))⟩, ⟨(some 97), none, (.pick (.tmp 81) (.const (.bool true)) (.tmp 96))⟩]) (.cond (.tmp 97) (.seq (.ops [⟨(some 6), none, (.mov (.const (.bool false)))⟩]) .ret) .skip))))))) (.ops [⟨(some 28), none, (.mov (.tmp 11))⟩, ⟨(some 29), none, (.bin .add (.tmp 28) (.const (.int .i64 1)))⟩, ⟨(some 11), none, (.mov (.tmp 29))⟩])))))) (.seq (.ops [⟨(some 98), none, (.mov (.tmp 7))⟩, ⟨(some 6), none, (.mov (.tmp 98))⟩]) .ret))))))
def rs4 : List RV := [(.tmp 6)]
set_option maxRecDepth 100000 in
theorem comp4 : compFn Tryz.prog Tryz.f4 = some (vc4, rs4) := by kernel_rfl
set_option maxRecDepth 100000 in

def vc23 : VCode := (.seq (.ops [⟨(some 2), none, (.box (.tmp 0))⟩, ⟨(some 3), none, (.box (.tmp 1))⟩, ⟨(some 4), none, (.mov (.const (.bool false)))⟩]) (.seq (.ops [⟨(some 5), none, (.faddr (.tmp 2) 0)⟩, ⟨(some 6), none, (.load none (.tmp 5))⟩, ⟨(some 7), none, (.faddr (.tmp 3) 0)⟩, ⟨(some 8), none, (.load none (.tmp 7))⟩, ⟨(some 9), none, (.bin .eql (.tmp 6) (.tmp 8))⟩, ⟨(some 10), none, (.mov (.tmp 9))⟩, ⟨(some 11), (some (10, true)), (.faddr (.tmp 2) 1)⟩, ⟨(some 12), (some (10, true)), (.load none (.tmp 11))⟩, ⟨(some 13), (some (10, true)), (.faddr (.tmp 3) 1)⟩, ⟨(some 14), (some (10, true)), (.load none (.tmp 13))⟩, ⟨(some 15), (some (10, true)), (.bin .eql (.tmp 12) (.tmp 14))⟩, ⟨(some 16), none, (.pick (.tmp 10) (.tmp 15) (.const (.bool false)))⟩, ⟨(some 17), none, (.mov (.tmp 16))⟩, ⟨(some 18), (some (17, true)), (.faddr (.tmp 2) 2)⟩, ⟨(some 19), (some (17, true)), (.load none (.tmp 18))⟩, ⟨(some 20), (some (17, true)), (.faddr (.tmp 3) 2)⟩, ⟨(some 21), (some (17, true)), (.load none (.tmp 20))⟩, ⟨(some 22), (some (17, true)), (.bin .eql (.tmp 19) (.tmp 21))⟩, ⟨(some 23), none, (.pick (.tmp 17) (.tmp 22) (.const (.bool false)))⟩, ⟨(some 24), none, (.mov (.tmp 23))⟩, ⟨(some 25), (some (24, true)), (.faddr (.tmp 2) 3)⟩, ⟨(some 26), (some (24, true)), (.load none (.tmp 25))⟩, ⟨(some 27), (some (24, true)), (.faddr (.tmp 3) 3)⟩, ⟨(some 28), (some (24, true)), (.load none (.tmp 27))⟩, ⟨(some 29), (some (24, true)), (.call true 24 [(.tmp 26), (.tmp 28)])⟩, ⟨(some 30), none, (.pick (.tmp 24) (.tmp 29) (.const (.bool false)))⟩, ⟨(some 4), none, (.mov (.tmp 30))⟩]) .ret))
def rs23 : List RV := [(.tmp 4)]
set_option maxRecDepth 100000 in
theorem comp23 : compFn Tryz.prog Tryz.f23 = some (vc23, rs23) := by kernel_rfl
end Go.Proofs.YtojckjngjfgfdaaGreat
namespace Go.Proofs.YtojckjngjfgfdaaGreat
set_option linter.unusedSimpArgs false
set_option linter.unusedVariables false
open Go.Proofs.YtojckjngjfgfdaaGreat.Vc
/-! ### Devices compared -/
theorem Dv.eq_of' {a b : Dv} (h1 : a.id = b.id) (h2 : a.epoch = b.epoch) (h3 : a.next = b.next) (h4 : a.edits = b.edits) : a = b := by
 cases a; cases b; simp only at h1 h2 h3 h4; subst h1 h2 h3 h4; rfl
theorem rSameDv (a b : Dv) (u v : Value) (R : RO) (h : EdsV R u a.edits) (k : EdsV R v b.edits) : CallsR Tryz.prog 23 [.agg (dvCells a u).toArray, .agg (dvCells b v).toArray] R fun _ r => r = .bool (decide (a = b)) := by
 have hL := eSameList a.edits b.edits u v R h k
 obtain ⟨ua, uc, rfl, _⟩ := h.form
 obtain ⟨va, vc, rfl, _⟩ := k.form
 have hab : a = b ↔ a.id = b.id ∧ a.epoch = b.epoch ∧ a.next = b.next ∧ a.edits = b.edits := ⟨fun h => by rw [h]; exact ⟨rfl, rfl, rfl, rfl⟩, fun ⟨h1, h2, h3, h4⟩ => Dv.eq_of' h1 h2 h3 h4⟩
 simp only [dvCells]
 refine callsT mix Tryz.func23 comp23 (by simp [Tryz.ntmps23]) ?_; simp only [go_sem, ↓reduceIte, nQ1, nQ2, nQ3, nQ4, nQ5, nQ6, reduceCtorEq, vc23, rs23]
 refine ⟨fun h1 => ⟨fun h2 => ⟨fun h3 => ?_, fun h3 => ?_⟩, fun h2 => ?_⟩, fun h1 => ?_⟩
 ·refine vcall hL ?_
  rintro R1 r hle rfl
  try simp only [go_sem, ↓reduceIte, nQ1, nQ2, nQ3, nQ4, nQ5, nQ6, reduceCtorEq]
  congr 1
  rw [decide_eq_decide, hab]
  simp [h1, h2, h3]
 ·rw [decide_eq_false]; rw [hab]; exact fun h => h3 h.2.2.1
 ·rw [decide_eq_false]; rw [hab]; exact fun h => h2 h.2.1
 ·rw [decide_eq_false]; rw [hab]; exact fun h => h1 h.1
theorem validV_cons' {d : Dv} (h : validV d = true) : Cons d.edits := by
 have h3 := validV_all h
 refine ⟨fun e he => (h3.1 e he).1, fun a ha b hb hk => ?_⟩
 have hp : KeysD d.edits := h3.2.imp fun h => lessD_key h
 exact hp.eq ha hb hk
end Go.Proofs.YtojckjngjfgfdaaGreat
namespace Go.Proofs.YtojckjngjfgfdaaGreat
set_option linter.unusedSimpArgs false
set_option linter.unusedVariables false
open Go.Proofs.YtojckjngjfgfdaaGreat.Vc
/-! ### Plain facts -/
theorem overCount_lt {o : List De} {d b : De} (hb : b ∈ o) (h : overD d b = true) : (o.filter (overD b)).length < (o.filter (overD d)).length := by
 have hsub : ∀ l : List De, (l.filter (overD b)).length ≤ (l.filter (overD d)).length := fun l => by
  induction l with
  | nil => simp
  | cons x l ih =>
   rw [List.filter_cons, List.filter_cons]
   cases hx : overD b x with
   | true => rw [overD_trans h hx]; simpa using ih
   | false => cases overD d x <;> simp <;> omega
 obtain ⟨l1, l2, rfl⟩ := List.append_of_mem hb
 rw [List.filter_append, List.filter_append, List.filter_cons, List.filter_cons, h, overD_irrefl]
 have h1 := hsub l1
 have h2 := hsub l2
 simp
 omega
theorem over_force {o : List De} : ∀ (n : Nat) (d : De), (o.filter (overD d)).length ≤ n → (∃ b ∈ o, overD d b = true) → ∃ c ∈ forceD o, overD d c = true
 | 0, d, hn, ⟨b, hb, h⟩ => by have := overCount_lt hb h; omega
 | n + 1, d, hn, ⟨b, hb, h⟩ => by
  by_cases hf : ∃ c ∈ o, overD b c = true
  ·obtain ⟨c, hc, hbc⟩ := over_force n b (by have := overCount_lt hb h; omega) hf
   exact ⟨c, hc, overD_trans h hbc⟩
  ·refine ⟨b, mem_forceD.2 ⟨hb, fun c hc => ?_⟩, h⟩
   cases hbc : overD b c with
   | false => rfl
   | true => exact absurd ⟨c, hc, hbc⟩ hf
end Go.Proofs.YtojckjngjfgfdaaGreat
namespace Go.Proofs.YtojckjngjfgfdaaGreat
set_option linter.unusedSimpArgs false
set_option linter.unusedVariables false
open Go.Proofs.YtojckjngjfgfdaaGreat.Vc
/-! ### What is in force on a day: plain facts -/
def lastOf (p : De → Bool) (l : List De) : Option De := (l.filter p).getLast?
theorem lastOf_snoc (p : De → Bool) (l : List De) (d : De) : lastOf p (l ++ [d]) = if p d = true then some d else lastOf p l := by
 unfold lastOf
 rw [List.filter_append]
 cases h : p d <;> simp [h]
def kOn (k day : Int) (d : De) : Bool := decide (d.kind = k) && decide (d.day ≤ day)
def kind5 (d : De) : Bool := decide (d.kind = 5)
theorem list_snoc_ind {α : Type} {P : List α → Prop} (h0 : P []) (h1 : ∀ l x, P l → P (l ++ [x])) (l : List α) : P l := by
 have : ∀ r : List α, P r.reverse := fun r => by
  induction r with
  | nil => exact h0
  | cons x r ih => rw [List.reverse_cons]; exact h1 _ _ ih
 rw [← List.reverse_reverse l]
 exact this _
theorem onE_snoc (day : Int) (s : On) (l : List De) (d : De) : onE day s (l ++ [d]) = stepOn day (onE day s l) d := by
 unfold onE; rw [List.foldl_append]; rfl
theorem onE_eq (day : Int) (s : On) (l : List De) : onE day s l = ⟨((lastOf (kOn 3 day) l).map (·.rule)).getD s.rule, ((lastOf (kOn 2 day) l).map (·.minute)).getD s.minute, ((lastOf (kOn 2 day) l).map (·.length)).getD s.length, ((lastOf (kOn 4 day) l).map (·.zone)).getD s.zone⟩ := by
 refine list_snoc_ind (P := fun l => onE day s l = ⟨((lastOf (kOn 3 day) l).map (·.rule)).getD s.rule, ((lastOf (kOn 2 day) l).map (·.minute)).getD s.minute, ((lastOf (kOn 2 day) l).map (·.length)).getD s.length, ((lastOf (kOn 4 day) l).map (·.zone)).getD s.zone⟩) rfl (fun l d ih => ?_) l
 rw [onE_snoc, ih, lastOf_snoc, lastOf_snoc, lastOf_snoc]
 unfold stepOn kOn
 by_cases h0 : day < d.day
 ·have : ¬ d.day ≤ day := by omega
  simp [h0, this]
 ·have h0' : d.day ≤ day := by omega
  by_cases h2 : d.kind = 2
  ·simp [h0, h0', h2]
  ·by_cases h3 : d.kind = 3
   ·simp [h0, h0', h3]
   ·by_cases h4 : d.kind = 4 <;> simp [h0, h0', h2, h3, h4]
theorem endE_snoc (l : List De) (d : De) : endE (l ++ [d]) = if d.kind = 5 then d.day else endE l := by
 unfold endE; rw [List.foldl_append]; rfl
theorem endE_eq (l : List De) : endE l = ((lastOf kind5 l).map (·.day)).getD 1099511627777 := by
 refine list_snoc_ind (P := fun l => endE l = ((lastOf kind5 l).map (·.day)).getD 1099511627777) rfl (fun l d ih => ?_) l
 rw [endE_snoc, lastOf_snoc, ih]
 unfold kind5
 by_cases h : d.kind = 5 <;> simp [h]
theorem lastOf_some {p : De → Bool} {l : List De} {c : De} (h : lastOf p l = some c) : c ∈ l ∧ p c = true := by
 have := List.mem_of_getLast? h
 exact List.mem_filter.1 this
theorem lastOf_none {p : De → Bool} {l : List De} (h : lastOf p l = none) : ∀ d ∈ l, p d = false := by
 unfold lastOf at h
 rw [List.getLast?_eq_none_iff, List.filter_eq_nil_iff] at h
 intro d hd
 simpa using h d hd
theorem lastOf_max {p : De → Bool} {l : List De} {c x : De} (hs : SortedD l) (h : lastOf p l = some c) (hx : x ∈ l) (hp : p x = true) : x = c ∨ lessD x c = true := by
 have hs' : SortedD (l.filter p) := List.Pairwise.sublist List.filter_sublist hs
 have hm : x ∈ l.filter p := List.mem_filter.2 ⟨hx, hp⟩
 unfold lastOf at h
 obtain ⟨l0, hl⟩ := List.getLast?_eq_some_iff.1 h
 rw [hl] at hs' hm
 rcases List.mem_append.1 hm with h1 | h1
 ·exact .inr ((List.pairwise_append.1 hs').2.2 x h1 c (by simp))
 ·exact .inl (by simpa using h1)
theorem lastOf_of {p : De → Bool} {l : List De} {c : De} (hs : SortedD l) (hc : c ∈ l) (hp : p c = true) (hmax : ∀ x ∈ l, p x = true → x = c ∨ lessD x c = true) : lastOf p l = some c := by
 cases h : lastOf p l with
 | none => have := lastOf_none h c hc; rw [hp] at this; cases this
 | some y =>
  obtain ⟨hy, hpy⟩ := lastOf_some h
  rcases lastOf_max hs h hc hp with e | e
  ·rw [e]
  ·rcases hmax y hy hpy with e' | e'
   ·rw [e']
   ·rw [lessD_asymm e] at e'; cases e'
theorem lastOf_force {p : De → Bool} {o : List De} (hs : SortedD o) (h : ∀ c, lastOf p o = some c → c ∈ forceD o) : lastOf p (forceD o) = lastOf p o := by
 cases hc : lastOf p o with
 | none =>
  unfold lastOf
  rw [List.getLast?_eq_none_iff, List.filter_eq_nil_iff]
  intro d hd
  simpa using lastOf_none hc d (mem_forceD.1 hd).1
 | some c =>
  obtain ⟨h1, h2⟩ := lastOf_some hc
  exact lastOf_of (forceD_sorted hs) (h c hc) h2 fun x hx hp => lastOf_max hs hc (mem_forceD.1 hx).1 hp
theorem valid_kind {d : De} (h : validD d = true) : d.kind = 1 ∨ d.kind = 2 ∨ d.kind = 3 ∨ d.kind = 4 ∨ d.kind = 5 := by
 unfold validD validE at h
 simp only [Bool.and_eq_true] at h
 have h4 := h.2
 unfold kindE at h4
 repeat' (split at h4)
 all_goals first
  | (rename_i hk; exact .inl hk)
  | (rename_i hk; exact .inr (.inl hk))
  | (rename_i hk; exact .inr (.inr (.inl hk)))
  | (rename_i hk; exact .inr (.inr (.inr (.inl hk))))
  | (rename_i hk; exact .inr (.inr (.inr (.inr hk))))
  | cases h4
theorem valid_day {d : De} (h : validD d = true) : 0 ≤ d.day ∧ d.day ≤ 1099511627776 := by
 unfold validD validE betw at h
 simp only [Bool.and_eq_true, decide_eq_true_eq] at h
 exact h.1.2
theorem valid_zone {d : De} (h : validD d = true) (hk : d.kind = 4) : d.day = 0 := by
 unfold validD validE at h
 simp only [Bool.and_eq_true] at h
 have h4 := h.2
 unfold kindE at h4
 have hk' : (d.ed none d.rule.length 0).kind = 4 := hk
 rw [if_neg (by omega), if_neg (by omega), if_neg (by omega), if_pos hk'] at h4
 simp only [Bool.and_eq_true, decide_eq_true_eq] at h4
 exact h4.1.1
theorem valid_length {d : De} (h : validD d = true) (hk : d.kind = 2) : 1 ≤ d.length := by
 unfold validD validE at h
 simp only [Bool.and_eq_true] at h
 have h4 := h.2
 unfold kindE betw at h4
 have hk' : (d.ed none d.rule.length 0).kind = 2 := hk
 rw [if_neg (by omega), if_pos hk'] at h4
 simp only [Bool.and_eq_true, decide_eq_true_eq] at h4
 exact h4.1.2.1
section
variable {o : List De} (hs : SortedD o) (hv : ∀ d ∈ o, validD d = true)
include hs
theorem withdraw_one {a b : De} (ha : a ∈ forceD o) (hb : b ∈ forceD o) (ka : a.kind = 5) (kb : b.kind = 5) : a = b := by
 have h1 := (mem_forceD.1 ha).2 b (mem_forceD.1 hb).1
 have h2 := (mem_forceD.1 hb).2 a (mem_forceD.1 ha).1
 have h3 : ¬ overD a b = true := by rw [h1]; simp
 have h4 : ¬ overD b a = true := by rw [h2]; simp
 rw [overD_iff] at h3 h4
 have hd : a.day = b.day := by
  rcases Int.lt_trichotomy a.day b.day with h | h | h
  ·exact absurd (.inr (.inr (.inr (.inr ⟨kb, ka, .inl h⟩)))) h4
  ·exact h
  ·exact absurd (.inr (.inr (.inr (.inr ⟨ka, kb, .inl h⟩)))) h3
 have l1 : lessD a b = false := by
  cases h : lessD a b with
  | false => rfl
  | true => exact absurd (.inr (.inr (.inr (.inr ⟨ka, kb, .inr ⟨hd.symm, h⟩⟩)))) h3
 have l2 : lessD b a = false := by
  cases h : lessD b a with
  | false => rfl
  | true => exact absurd (.inr (.inr (.inr (.inr ⟨kb, ka, .inr ⟨hd, h⟩⟩)))) h4
 have hk := lessD_total l1 l2
 have hkeys : KeysD o := hs.imp fun h => lessD_key h
 exact hkeys.eq (mem_forceD.1 ha).1 (mem_forceD.1 hb).1 hk
theorem endE_mem {w : De} (hw : w ∈ forceD o) (hk : w.kind = 5) : endE (forceD o) = w.day := by
 rw [endE_eq]
 cases h : lastOf kind5 (forceD o) with
 | none => have := lastOf_none h w hw; simp [kind5, hk] at this
 | some c =>
  obtain ⟨h1, h2⟩ := lastOf_some h
  rw [withdraw_one hs h1 hw (by simpa [kind5] using h2) hk]
  rfl
theorem endE_le {w : De} (hw : w ∈ o) (hk : w.kind = 5) : endE (forceD o) ≤ w.day := by
 by_cases hf : ∃ b ∈ o, overD w b = true
 ·obtain ⟨c, hc, hwc⟩ := over_force _ w (Nat.le_refl _) hf
  rw [overD_iff] at hwc
  have hck : c.kind = 5 ∧ c.day ≤ w.day := by omega
  rw [endE_mem hs hc hck.1]
  exact hck.2
 ·rw [endE_mem hs (mem_forceD.2 ⟨hw, fun b hb => by
   cases h : overD w b with
   | false => rfl
   | true => exact absurd ⟨b, hb, h⟩ hf⟩) hk]
  exact Int.le_refl _
include hv
omit hs in
theorem force_lt_end {d : De} (hd : d ∈ forceD o) (hk : d.kind = 1 ∨ d.kind = 2 ∨ d.kind = 3) : d.day < endE (forceD o) := by
 have hvd := (valid_day (hv d (mem_forceD.1 hd).1)).2
 rw [endE_eq]
 cases h : lastOf kind5 (forceD o) with
 | none => simp; omega
 | some w =>
  obtain ⟨h1, h2⟩ := lastOf_some h
  have hwk : w.kind = 5 := by simpa [kind5] using h2
  have h3 : ¬ overD d w = true := by rw [(mem_forceD.1 hd).2 w (mem_forceD.1 h1).1]; simp
  rw [overD_iff] at h3
  simp only [Option.map_some, Option.getD_some]
  omega
omit hs hv in
theorem end_cases : endE (forceD o) = 1099511627777 ∨ ∃ w ∈ forceD o, w.kind = 5 ∧ w.day = endE (forceD o) := by
 rw [endE_eq]
 cases h : lastOf kind5 (forceD o) with
 | none => exact .inl rfl
 | some w =>
  obtain ⟨h1, h2⟩ := lastOf_some h
  exact .inr ⟨w, h1, by simpa [kind5] using h2, rfl⟩
theorem last_in_force {k day : Int} (hk : k = 2 ∨ k = 3 ∨ k = 4) (hday : day < endE (forceD o)) {c : De} (h : lastOf (kOn k day) o = some c) : c ∈ forceD o := by
 obtain ⟨hc, hp⟩ := lastOf_some h
 have hp' : c.kind = k ∧ c.day ≤ day := by simpa [kOn] using hp
 refine mem_forceD.2 ⟨hc, fun b hb => ?_⟩
 cases hcb : overD c b with
 | false => rfl
 | true =>
  exfalso
  have hb2 := hv b hb
  rw [overD_iff] at hcb
  have hw : b.kind = 5 → b.day ≤ c.day → False := fun h1 h2 => by have := endE_le hs hb h1; omega
  have hl : b.kind = k → b.day ≤ day → lessD c b = true → False := fun h1 h2 h3 => by
   rcases lastOf_max hs h hb (by simp [kOn, h1, h2]) with e | e
   ·rw [e, lessD_irrefl] at h3; cases h3
   ·rw [lessD_asymm e] at h3; cases h3
  rcases hcb with h1 | h1 | h1 | h1 | h1
  ·omega
  ·obtain ⟨h2, h3, h4⟩ := h1
   exact hl (by omega) (by omega) h3
  ·have := valid_zone hb2 h1.2.1
   have := valid_zone (hv c hc) h1.1
   exact hl (by omega) (by omega) h1.2.2
  ·exact hw h1.2.1 h1.2.2
  ·omega
theorem onE_force (day : Int) (s : On) (hday : day < endE (forceD o)) : onE day s (forceD o) = onE day s o := by
 rw [onE_eq, onE_eq, lastOf_force hs fun c hc => last_in_force hs hv (.inr (.inl rfl)) hday hc, lastOf_force hs fun c hc => last_in_force hs hv (.inl rfl) hday hc, lastOf_force hs fun c hc => last_in_force hs hv (.inr (.inr rfl)) hday hc]
omit hv in
omit hv in
end
end Go.Proofs.YtojckjngjfgfdaaGreat
namespace Go.Proofs.YtojckjngjfgfdaaGreat
set_option linter.unusedSimpArgs false
set_option linter.unusedVariables false
open Go.Proofs.YtojckjngjfgfdaaGreat.Vc
/-! ### The parts hold the days: plain facts -/
/-- The part that holds a day. -/
def holdP (ps : List (Int × Ti)) (x : Int) : Option (Int × Ti) := (ps.filter fun p => decide (p.1 ≤ x)).getLast?
def lastLe (l : List Int) (x : Int) : Option Int := (l.filter fun d => decide (d ≤ x)).getLast?
theorem holdP_snoc (ps : List (Int × Ti)) (p : Int × Ti) (x : Int) : holdP (ps ++ [p]) x = if p.1 ≤ x then some p else holdP ps x := by
 unfold holdP
 rw [List.filter_append]
 by_cases h : p.1 ≤ x <;> simp [h]
theorem holdP_all {ps : List (Int × Ti)} {x : Int} (h : ∀ p ∈ ps, p.1 ≤ x) : holdP ps x = ps.getLast? := by
 unfold holdP
 rw [List.filter_eq_self.2 fun p hp => by simpa using h p hp]
theorem lastLe_lt {l : List Int} {x : Int} (h : ∀ d ∈ l, x < d) : lastLe l x = none := by
 unfold lastLe
 rw [List.getLast?_eq_none_iff, List.filter_eq_nil_iff]
 intro d hd
 have := h d hd
 simp; omega
theorem lastLe_cons {d : Int} {r : List Int} (h : Inc (d :: r)) (x : Int) : (x < d ∧ lastLe (d :: r) x = none ∧ lastLe r x = none) ∨ (d ≤ x ∧ ((lastLe r x = none ∧ lastLe (d :: r) x = some d) ∨ ∃ d2, lastLe r x = some d2 ∧ lastLe (d :: r) x = some d2)) := by
 have h' := List.pairwise_cons.1 h
 rcases Int.lt_or_le x d with hx | hx
 ·refine .inl ⟨hx, lastLe_lt fun y hy => ?_, lastLe_lt fun y hy => ?_⟩
  ·rcases List.mem_cons.1 hy with rfl | hy
   ·exact hx
   ·have := h'.1 y hy; omega
  ·have := h'.1 y hy; omega
 ·refine .inr ⟨hx, ?_⟩
  have hc : lastLe (d :: r) x = some ((lastLe r x).getD d) := by
   unfold lastLe
   rw [List.filter_cons, if_pos (by simpa using hx), List.getLast?_cons]
  cases hr : lastLe r x with
  | none => rw [hr] at hc; exact .inl ⟨rfl, hc⟩
  | some d2 => rw [hr] at hc; exact .inr ⟨d2, rfl, hc⟩
theorem lastLe_mem {l : List Int} {x d : Int} (h : lastLe l x = some d) : d ∈ l ∧ d ≤ x := by
 have := List.mem_of_getLast? h
 rw [List.mem_filter] at this
 simpa using this
theorem hold_go (e : Int) (f : Int → Ti) (H : ∀ a b : Int, 0 ≤ a → 0 ≤ b → sameTi (f a) (f b) = true → f a = f b) : ∀ (l : List Int) (out : List (Int × Ti)), Inc l → (∀ d ∈ l, 0 ≤ d) → (∀ p ∈ out, ∀ d ∈ l, p.1 < d) → (∀ p, out.getLast? = some p → ∃ d' : Int, 0 ≤ d' ∧ p.2 = f d') →
  ∀ x, (lastLe l x = none → holdP (partsGo e f l out) x = holdP out x) ∧ (∀ d, lastLe l x = some d → ∃ d', holdP (partsGo e f l out) x = some (d', if e ≤ d then Ti.zero else f d))
 | [], out, _, _, _, _, x => ⟨fun _ => rfl, fun d h => by simp [lastLe] at h⟩
 | d :: r, out, hi, hnn, ho, hl, x => by
  have h' := List.pairwise_cons.1 hi
  have hor : ∀ p ∈ out, ∀ d' ∈ r, p.1 < d' := fun p hp d' hd' => ho p hp d' (by simp [hd'])
  have hod : ∀ p ∈ out, p.1 < d := fun p hp => ho p hp d (by simp)
  by_cases he : e ≤ d
  ·rw [partsGo_end he]
   refine ⟨fun hn => ?_, fun d1 hd1 => ?_⟩
   ·rcases lastLe_cons hi x with ⟨hx, _, _⟩ | ⟨hx, ⟨_, h⟩ | ⟨d2, _, h⟩⟩
    ·rw [holdP_snoc, if_neg (by simp; omega)]
    ·rw [hn] at h; cases h
    ·rw [hn] at h; cases h
   ·obtain ⟨hm, hx⟩ := lastLe_mem hd1
    have hdd : d ≤ d1 := by
     rcases List.mem_cons.1 hm with e' | hm
     ·omega
     ·have := h'.1 d1 hm; omega
    rw [holdP_snoc, if_pos (by simp; omega)]
    exact ⟨d, by rw [if_pos (by omega)]⟩
  ·have hnew : ∀ x, (lastLe (d :: r) x = none → holdP (partsGo e f r (out ++ [(d, f d)])) x = holdP out x) ∧ (∀ d1, lastLe (d :: r) x = some d1 → ∃ d', holdP (partsGo e f r (out ++ [(d, f d)])) x = some (d', if e ≤ d1 then Ti.zero else f d1)) := fun x => by
    obtain ⟨i1, i2⟩ := hold_go e f H r (out ++ [(d, f d)]) h'.2 (fun y hy => hnn y (by simp [hy])) (fun p hp d' hd' => by
     rcases List.mem_append.1 hp with hp | hp
     ·exact hor p hp d' hd'
     ·simp only [List.mem_cons, List.not_mem_nil, or_false] at hp; subst hp; exact h'.1 d' hd') (fun p hp => by
     rw [List.getLast?_concat] at hp; cases hp; exact ⟨d, hnn d (by simp), rfl⟩) x
    rcases lastLe_cons hi x with ⟨hx, h1, h2⟩ | ⟨hx, ⟨h1, h2⟩ | ⟨d2, h1, h2⟩⟩
    ·refine ⟨fun _ => ?_, fun d1 h => by rw [h1] at h; cases h⟩
     rw [i1 h2, holdP_snoc, if_neg (by simp; omega)]
    ·refine ⟨fun h => (by rw [h2] at h; cases h), fun d1 h => ?_⟩
     rw [h2] at h; cases h
     rw [i1 h1, holdP_snoc, if_pos (by simpa using hx), if_neg he]
     exact ⟨_, rfl⟩
    ·refine ⟨fun h => (by rw [h2] at h; cases h), fun d1 h => ?_⟩
     rw [h2] at h; cases h
     exact i2 _ h1
   rcases List.eq_nil_or_concat out with hnil | ⟨out0, y, hc⟩
   ·subst hnil
    rw [partsGo_first he]
    exact hnew x
   ·rw [List.concat_eq_append] at hc
    cases hsame : sameTi (f d) y.2 with
    | false =>
     rw [hc, partsGo_new he hsame, ← hc]
     exact hnew x
    | true =>
     rw [hc, partsGo_same he hsame, ← hc]
     obtain ⟨i1, i2⟩ := hold_go e f H r out h'.2 (fun y hy => hnn y (by simp [hy])) hor hl x
     have hlast : out.getLast? = some y := by rw [hc, List.getLast?_concat]
     obtain ⟨d', hd0, hd'⟩ := hl y hlast
     rcases lastLe_cons hi x with ⟨hx, h1, h2⟩ | ⟨hx, ⟨h1, h2⟩ | ⟨d2, h1, h2⟩⟩
     ·exact ⟨fun _ => i1 h2, fun d1 h => by rw [h1] at h; cases h⟩
     ·refine ⟨fun h => (by rw [h2] at h; cases h), fun d1 h => ?_⟩
      rw [h2] at h; cases h
      rw [i1 h1, holdP_all (fun p hp => by have := hod p hp; omega), hlast, if_neg he]
      refine ⟨y.1, ?_⟩
      rw [hd'] at hsame
      rw [H _ _ (hnn d (by simp)) hd0 hsame, ← hd']
     ·refine ⟨fun h => (by rw [h2] at h; cases h), fun d1 h => ?_⟩
      rw [h2] at h; cases h
      exact i2 _ h1
def AdjNe (ps : List (Int × Ti)) : Prop := ∀ i (h : i + 1 < ps.length), (ps[i]).2 ≠ (ps[i + 1]).2
theorem AdjNe.snoc {ps : List (Int × Ti)} {q : Int × Ti} (h : AdjNe ps) (hq : ∀ y, ps.getLast? = some y → y.2 ≠ q.2) : AdjNe (ps ++ [q]) := by
 intro i hi
 rw [List.length_append, List.length_cons, List.length_nil] at hi
 by_cases hl : i + 1 < ps.length
 ·rw [List.getElem_append_left (by omega), List.getElem_append_left hl]
  exact h i hl
 ·have hi' : i + 1 = ps.length := by omega
  rw [List.getElem_append_left (by omega), List.getElem_append_right (by omega)]
  have : (ps ++ [q])[i + 1]? = some q := by rw [hi', List.getElem?_concat_length]
  have hz : i + 1 - ps.length = 0 := by omega
  simp only [hz, List.getElem_cons_zero]
  refine hq _ ?_
  rw [List.getLast?_eq_getElem?, show ps.length - 1 = i by omega, List.getElem?_eq_getElem (by omega)]
theorem sameTi_self (x : Ti) : sameTi x x = true := by simp [sameTi]
theorem adj_go (e : Int) (f : Int → Ti) (hf : ∀ d, f d ≠ Ti.zero) : ∀ (l : List Int) (out : List (Int × Ti)), AdjNe out → (∀ p ∈ out, p.2 ≠ Ti.zero) → AdjNe (partsGo e f l out)
 | [], out, h, _ => h
 | d :: r, out, h, hz => by
  by_cases he : e ≤ d
  ·rw [partsGo_end he]
   exact h.snoc fun y hy => hz y (List.mem_of_getLast? hy)
  ·have hnew : (∀ y, out.getLast? = some y → y.2 ≠ f d) → AdjNe (partsGo e f r (out ++ [(d, f d)])) := fun hn => adj_go e f hf r _ (h.snoc hn) fun p hp => by
    rcases List.mem_append.1 hp with hp | hp
    ·exact hz p hp
    ·simp only [List.mem_cons, List.not_mem_nil, or_false] at hp; subst hp; exact hf d
   rcases List.eq_nil_or_concat out with hnil | ⟨out0, y, hc⟩
   ·subst hnil
    rw [partsGo_first he]
    exact hnew (by simp)
   ·rw [List.concat_eq_append] at hc
    cases hsame : sameTi (f d) y.2 with
    | false =>
     have := hnew (fun y' hy' => by
      rw [hc, List.getLast?_concat] at hy'
      cases hy'
      intro e'
      rw [e', sameTi_self] at hsame; cases hsame)
     rw [hc, partsGo_new he hsame, ← hc]
     exact this
    | true =>
     rw [hc, partsGo_same he hsame, ← hc]
     exact adj_go e f hf r out h hz
/-! ### Merge -/
theorem tiOn_same (s : Se) (rl : List Nd) {o : List De} (hv : ∀ d ∈ o, validD d = true) {a b : Int} (ha : 0 ≤ a) (hb : 0 ≤ b) (h : sameTi (tiOn s rl o a) (tiOn s rl o b) = true) : tiOn s rl o a = tiOn s rl o b := by
 have hz : ∀ x : Int, 0 ≤ x → lastOf (kOn 4 x) o = lastOf (fun d => decide (d.kind = 4)) o := fun x hx => by
  unfold lastOf
  congr 1
  refine List.filter_congr fun d hd => ?_
  unfold kOn
  by_cases hk : d.kind = 4
  ·have := valid_zone (hv d hd) hk
   simp [hk, this, hx]
  ·simp [hk]
 have h1 : ∀ x : Int, 0 ≤ x → (tiOn s rl o x).zone = ((lastOf (fun d => decide (d.kind = 4)) o).map (·.zone)).getD s.zone := fun x hx => by
  show (onE x (s.on rl) o).zone = _
  rw [onE_eq, hz x hx]
  rfl
 unfold sameTi at h
 simp only [Bool.and_eq_true, decide_eq_true_eq] at h
 have hz2 := (h1 a ha).trans (h1 b hb).symm
 have e1 : ∀ x, (tiOn s rl o x).gap = s.gap := fun _ => rfl
 have e2 : ∀ x, (tiOn s rl o x).fold = s.fold := fun _ => rfl
 have k1 := (e1 a).trans (e1 b).symm
 have k2 := (e2 a).trans (e2 b).symm
 obtain ⟨⟨h3, h4⟩, h5⟩ := h
 generalize tiOn s rl o a = p at *
 generalize tiOn s rl o b = q at *
 obtain ⟨_, _, _, _, _, _⟩ := p
 obtain ⟨_, _, _, _, _, _⟩ := q
 simp only at *
 subst h3 h4 h5 hz2 k1 k2
 rfl
theorem tiOn_length (s : Se) (rl : List Nd) {o : List De} (hv : ∀ d ∈ o, validD d = true) (hl : 1 ≤ s.length) (x : Int) : 1 ≤ (tiOn s rl o x).length := by
 show 1 ≤ (onE x (s.on rl) o).length
 rw [onE_eq]
 cases h : lastOf (kOn 2 x) o with
 | none => exact hl
 | some c =>
  obtain ⟨h1, h2⟩ := lastOf_some h
  exact valid_length (hv c h1) (by simp [kOn] at h2; exact h2.1)
theorem tiOn_last (s : Se) (rl : List Nd) (o : List De) {x d : Int} (h : lastLe (rising (0 :: o.map (·.day))) x = some d) : tiOn s rl o x = tiOn s rl o d := by
 have hd := (lastLe_mem h).2
 have key : ∀ q ∈ o, (x < q.day ↔ d < q.day) := fun q hq => by
  refine ⟨fun hx => by omega, fun hx => ?_⟩
  rcases Int.lt_or_le x q.day with h1 | h1
  ·exact h1
  ·exfalso
   have hm : q.day ∈ (rising (0 :: o.map (·.day))).filter fun d => decide (d ≤ x) := List.mem_filter.2 ⟨by rw [mem_rising]; exact List.mem_cons_of_mem _ (List.mem_map_of_mem hq), by simpa using h1⟩
   unfold lastLe at h
   obtain ⟨l0, hl⟩ := List.getLast?_eq_some_iff.1 h
   have hi : Inc ((rising (0 :: o.map (·.day))).filter fun d => decide (d ≤ x)) := List.Pairwise.sublist List.filter_sublist (rising_inc _)
   rw [hl] at hi hm
   rcases List.mem_append.1 hm with h2 | h2
   ·have := (List.pairwise_append.1 hi).2.2 _ h2 d (by simp); omega
   ·simp at h2; omega
 have hon : ∀ (l : List De) (u : On), (∀ q ∈ l, q ∈ o) → onE x u l = onE d u l := by
  intro l
  induction l with
  | nil => intro u _; rfl
  | cons q l ih =>
   intro u hq
   have hs : stepOn x u q = stepOn d u q := by
    unfold stepOn
    have := key q (hq q (by simp))
    by_cases h1 : x < q.day
    ·rw [if_pos h1, if_pos (this.1 h1)]
    ·rw [if_neg h1, if_neg (fun h2 => h1 (this.2 h2))]
   show onE x (stepOn x u q) l = onE d (stepOn d u q) l
   rw [hs]
   exact ih _ fun q' hq' => hq q' (by simp [hq'])
 unfold tiOn
 rw [hon o _ fun _ h => h]
theorem parts_hold (s : Se) (rl : List Nd) {o : List De} (hv : ∀ d ∈ o, validD d = true) (e : Int) {x : Int} (hx : 0 ≤ x) (he : e ∈ o.map (·.day) ∨ x < e) : ∃ d', holdP (partsD s rl o e) x = some (d', if e ≤ x then Ti.zero else tiOn s rl o x) := by
 have hnn : ∀ d ∈ rising (0 :: o.map (·.day)), 0 ≤ d := fun d hd => by
  rw [mem_rising] at hd
  rcases List.mem_cons.1 hd with rfl | hd
  ·exact Int.le_refl _
  ·obtain ⟨q, hq, rfl⟩ := List.mem_map.1 hd
   exact (valid_day (hv q hq)).1
 have h := (hold_go e (tiOn s rl o) (fun a b ha hb h => tiOn_same s rl hv ha hb h) (rising (0 :: o.map (·.day))) [] (rising_inc _) hnn (by simp) (by simp) x).2
 have h0 : (0 : Int) ∈ rising (0 :: o.map (·.day)) := by rw [mem_rising]; simp
 cases hl : lastLe (rising (0 :: o.map (·.day))) x with
 | none =>
  unfold lastLe at hl
  rw [List.getLast?_eq_none_iff, List.filter_eq_nil_iff] at hl
  exact absurd hx (by simpa using hl 0 h0)
 | some d =>
  obtain ⟨d', hd'⟩ := h d hl
  obtain ⟨hm, hdx⟩ := lastLe_mem hl
  refine ⟨d', ?_⟩
  unfold partsD
  rw [hd', tiOn_last s rl o hl]
  by_cases hex : e ≤ x
  ·have hed : e ≤ d := by
    rcases he with he | he
    ·rcases Int.lt_or_le d e with h1 | h1
     ·exfalso
      have hm2 : e ∈ (rising (0 :: o.map (·.day))).filter fun d => decide (d ≤ x) := List.mem_filter.2 ⟨by rw [mem_rising]; simp only [List.mem_cons]; exact .inr he, by simpa using hex⟩
      unfold lastLe at hl
      obtain ⟨l0, hl0⟩ := List.getLast?_eq_some_iff.1 hl
      have hi : Inc ((rising (0 :: o.map (·.day))).filter fun d => decide (d ≤ x)) := List.Pairwise.sublist List.filter_sublist (rising_inc _)
      rw [hl0] at hi hm2
      rcases List.mem_append.1 hm2 with h2 | h2
      ·have := (List.pairwise_append.1 hi).2.2 _ h2 d (by simp); omega
      ·simp at h2; omega
     ·exact h1
    ·omega
   rw [if_pos hex, if_pos hed]
  ·rw [if_neg hex, if_neg (by omega)]
theorem force_hold (s : Se) (rl : List Nd) {o : List De} (hs : SortedD o) (hv : ∀ d ∈ o, validD d = true) {x : Int} (hx : 0 ≤ x ∧ x ≤ 1099511627776) : ∃ d', holdP (partsD s rl (forceD o) (endE (forceD o))) x = some (d', if endE (forceD o) ≤ x then Ti.zero else tiOn s rl (forceD o) x) := by
 refine parts_hold s rl (fun d hd => hv d (mem_forceD.1 hd).1) _ hx.1 ?_
 rcases end_cases (o := o) with h | ⟨w, hw, _, hwd⟩
 ·exact .inr (by omega)
 ·exact .inl (List.mem_map.2 ⟨w, hw, hwd⟩)
end Go.Proofs.YtojckjngjfgfdaaGreat
namespace Go.Proofs.YtojckjngjfgfdaaGreat
set_option linter.unusedSimpArgs false
set_option linter.unusedVariables false
open Go.Proofs.YtojckjngjfgfdaaGreat.Vc
theorem mvOf_ok (e : Ed) : moveOK (mvOf e) = true := by
 have hv := madeE_valid (ed0 e)
 have hk : (madeE (ed0 e)).kind = 1 := by unfold madeE ed0; simp
 exact (validD_move hv hk).1
theorem movesOf_len (es : List Ed) : (movesOf es).length ≤ 10 := by
 unfold movesOf
 have := List.length_filterMap_le (mvOn es) (List.range 10)
 simpa using this
theorem movesOK_of : ∀ {l : List Mv} {p : Option Int}, (∀ m ∈ l, moveOK m = true) → (l.Pairwise fun a b => a.day < b.day) → (∀ d, p = some d → ∀ m ∈ l, d < m.day) → movesOK p l = true
 | [], p, _, _, _ => movesOK_nil p
 | m :: r, p, h1, h2, h3 => by
  have h2' := List.pairwise_cons.1 h2
  rw [movesOK_cons, h1 m (by simp), movesOK_of (fun x hx => h1 x (by simp [hx])) h2'.2 (fun d hd x hx => by cases hd; exact h2'.1 x hx)]
  cases p with
  | none => rfl
  | some d => have := h3 d rfl m (by simp); simp [ltO, this]
theorem movesOf_pair (es : List Ed) (n : Nat) : ((List.range n).filterMap (mvOn es)).Pairwise fun a b => a.day < b.day := by
 induction n with
 | zero => simp
 | succ n ih =>
  rw [List.range_succ, List.filterMap_append, List.pairwise_append]
  refine ⟨ih, ?_, fun a ha b hb => ?_⟩
  ·rw [List.filterMap_cons, List.filterMap_nil]
   cases mvOn es n <;> simp
  ·have h1 := range_moves_day es n a ha
   obtain ⟨d, hd, hb'⟩ := List.mem_filterMap.1 hb
   simp only [List.mem_cons, List.not_mem_nil, or_false] at hd
   subst hd
   rw [mvOn_day hb']
   exact h1
theorem movesOf_ok (es : List Ed) : movesOK none (movesOf es) = true := by
 refine movesOK_of (fun m hm => ?_) (movesOf_pair es 10) (by simp)
 obtain ⟨d, _, hm'⟩ := List.mem_filterMap.1 hm
 unfold mvOn at hm'
 obtain ⟨e, _, rfl⟩ := Option.map_eq_some_iff.1 hm'
 exact mvOf_ok e
end Go.Proofs.YtojckjngjfgfdaaGreat
namespace Go.Proofs.YtojckjngjfgfdaaGreat
set_option linter.unusedSimpArgs false
set_option linter.unusedVariables false
open Go.Proofs.YtojckjngjfgfdaaGreat.Vc
/-! ### The reference's Merge, in plain words: all days are tried in order -/
/-- The moves go to the last part. -/
def addLast (out : List Pa) (m : List Mv) : List Pa := match out.getLast? with
 | none => out
 | some y => out.dropLast ++ [⟨y.day, y.ti, y.moves ++ m⟩]
theorem addLast_snoc (out : List Pa) (y : Pa) (m : List Mv) : addLast (out ++ [y]) m = out ++ [⟨y.day, y.ti, y.moves ++ m⟩] := by
 unfold addLast
 rw [List.getLast?_concat, List.dropLast_concat]
def newPart (out : List Pa) (d : Int) (x : Ti) : List Pa := match out.getLast? with
 | none => out ++ [⟨d, x, []⟩]
 | some y => if y.ti = x then out else out ++ [⟨d, x, []⟩]
theorem newPart_snoc (out : List Pa) (y : Pa) (d : Int) (x : Ti) : newPart (out ++ [y]) d x = if y.ti = x then out ++ [y] else out ++ [y] ++ [⟨d, x, []⟩] := by
 unfold newPart
 rw [List.getLast?_concat]
def refGo (e : Int) (f : Int → Ti) (mv : Int → List Mv) : List Int → List Pa → List Pa
 | [], out => out
 | d :: r, out => if e ≤ d then addLast (newPart out d Ti.zero) [] else refGo e f mv r (addLast (newPart out d (f d)) (mv d))
def bare (p : Pa) : Int × Ti := (p.day, p.ti)
def placeOn (P : List (Int × Ti)) (out : List Pa) (M : List Mv) : List Pa := P.mapIdx fun i p => ⟨p.1, p.2, ((out[i]?).map (·.moves)).getD [] ++ M.filter fun m => decide (partAt (P.map (·.1)) m.day = i)⟩
theorem placeOn_nil (P : List (Int × Ti)) (M : List Mv) : placeOn P [] M = placeD P M := by
 unfold placeOn placeD
 simp
theorem partsGo_more (e : Int) (f : Int → Ti) : ∀ (l : List Int) (out : List (Int × Ti)), ∃ t, partsGo e f l out = out ++ t ∧ ∀ p ∈ t, p.1 ∈ l
 | [], out => ⟨[], by rw [partsGo_nil]; simp, by simp⟩
 | d :: r, out => by
  by_cases he : e ≤ d
  ·exact ⟨[(d, Ti.zero)], partsGo_end he, by simp⟩
  ·have hnew : ∃ t, partsGo e f r (out ++ [(d, f d)]) = out ++ t ∧ ∀ p ∈ t, p.1 ∈ d :: r := by
    obtain ⟨t, h1, h2⟩ := partsGo_more e f r (out ++ [(d, f d)])
    refine ⟨(d, f d) :: t, by rw [h1]; simp, fun p hp => ?_⟩
    rcases List.mem_cons.1 hp with rfl | hp
    ·simp
    ·exact List.mem_cons_of_mem _ (h2 p hp)
   rcases List.eq_nil_or_concat out with hnil | ⟨out0, y, hc⟩
   ·subst hnil
    rw [partsGo_first he]
    exact hnew
   ·rw [List.concat_eq_append] at hc
    cases hs : sameTi (f d) y.2 with
    | false =>
     rw [hc, partsGo_new he hs, ← hc]
     exact hnew
    | true =>
     rw [hc, partsGo_same he hs, ← hc]
     obtain ⟨t, h1, h2⟩ := partsGo_more e f r out
     exact ⟨t, h1, fun p hp => List.mem_cons_of_mem _ (h2 p hp)⟩
theorem partAt_pre {A : List (Int × Ti)} {t : List (Int × Ti)} {d : Int} (h1 : ∀ p ∈ A, p.1 ≤ d) (h2 : ∀ p ∈ t, d < p.1) : partAt ((A ++ t).map (·.1)) d = A.length - 1 := by
 unfold partAt
 rw [List.map_append, List.filter_append, List.filter_eq_self.2, List.filter_eq_nil_iff.2]
 ·simp
 ·intro x hx
  obtain ⟨p, hp, rfl⟩ := List.mem_map.1 hx
  have := h2 p hp
  simp; omega
 ·intro x hx
  obtain ⟨p, hp, rfl⟩ := List.mem_map.1 hx
  have := h1 p hp
  simpa using this
def mvAt (out : List Pa) (i : Nat) : List Mv := ((out[i]?).map (·.moves)).getD []
theorem place_shift {P : List (Int × Ti)} {out out' : List Pa} {D M : List Mv} {d : Int} (hD : ∀ m ∈ D, m.day = d) (h : ∀ i, mvAt out' i = if partAt (P.map (·.1)) d = i then mvAt out i ++ D else mvAt out i) : placeOn P out' M = placeOn P out (D ++ M) := by
 unfold placeOn
 refine List.ext_getElem (by simp) fun i h1 h2 => ?_
 simp only [List.getElem_mapIdx, Pa.mk.injEq, true_and]
 rw [show ((out'[i]?).map (·.moves)).getD [] = mvAt out' i from rfl, show ((out[i]?).map (·.moves)).getD [] = mvAt out i from rfl, h i, List.filter_append]
 by_cases hi : partAt (P.map (·.1)) d = i
 ·have hf1 : D.filter (fun m => decide (partAt (P.map (·.1)) m.day = i)) = D := List.filter_eq_self.2 fun m hm => by rw [hD m hm]; simpa using hi
  rw [if_pos hi, hf1, List.append_assoc]
 ·have hf1 : D.filter (fun m => decide (partAt (P.map (·.1)) m.day = i)) = [] := List.filter_eq_nil_iff.2 fun m hm => by rw [hD m hm]; simpa using hi
  rw [if_neg hi, hf1, List.nil_append]
theorem newPart_new {out : List Pa} {d : Int} {x : Ti} (h : ∀ y, out.getLast? = some y → y.ti ≠ x) : newPart out d x = out ++ [⟨d, x, []⟩] := by
 unfold newPart
 cases hl : out.getLast? with
 | none => rfl
 | some y => simp [h y hl]
theorem mvAt_snoc (out : List Pa) (y : Pa) (i : Nat) : mvAt (out ++ [y]) i = if i = out.length then y.moves else mvAt out i := by
 unfold mvAt
 rcases Nat.lt_trichotomy i out.length with h | h | h
 ·rw [if_neg (by omega), List.getElem?_append_left h]
 ·subst h; rw [if_pos rfl, List.getElem?_concat_length]; rfl
 ·rw [if_neg (by omega), List.getElem?_eq_none (by simp; omega), List.getElem?_eq_none (by omega)]
theorem mvAt_out {out : List Pa} {i : Nat} (h : out.length ≤ i) : mvAt out i = [] := by
 unfold mvAt
 rw [List.getElem?_eq_none h]; rfl
theorem refGo_eq (e : Int) (f : Int → Ti) (mv : Int → List Mv) (hz : ∀ d, 0 ≤ d → f d ≠ Ti.zero) (hs : ∀ a b : Int, 0 ≤ a → 0 ≤ b → sameTi (f a) (f b) = true → f a = f b) (hmv : ∀ d, ∀ m ∈ mv d, m.day = d) :
  ∀ (l : List Int) (out : List Pa), Inc l → (∀ d ∈ l, 0 ≤ d) → (∀ p ∈ out, ∀ d ∈ l, p.day < d) → (∀ p ∈ out, ∃ d' : Int, 0 ≤ d' ∧ p.ti = f d') →
   refGo e f mv l out = placeOn (partsGo e f l (out.map bare)) out ((l.filter fun d => decide (d < e)).flatMap mv)
 | [], out, _, _, _, _ => by
  rw [partsGo_nil]
  simp only [refGo, placeOn, List.filter_nil, List.flatMap_nil, List.append_nil]
  refine List.ext_getElem (by simp) fun i h1 h2 => ?_
  simp [bare, h1]
 | d :: r, out, hi, hnn, ho, hf => by
  have h' := List.pairwise_cons.1 hi
  have hd0 := hnn d (by simp)
  have hle : ∀ p ∈ out.map bare, p.1 ≤ d := fun p hp => by
   obtain ⟨q, hq, rfl⟩ := List.mem_map.1 hp
   have := ho q hq d (by simp)
   show q.day ≤ d
   omega
  by_cases he : e ≤ d
  ·have hM : (d :: r).filter (fun d => decide (d < e)) = [] := by
    rw [List.filter_eq_nil_iff]
    intro x hx
    rcases List.mem_cons.1 hx with rfl | hx
    ·simp; omega
    ·have := h'.1 x hx
     simp; omega
   rw [partsGo_end he, hM, refGo, if_pos he, newPart_new (fun y hy => by
    obtain ⟨d', h0, h1⟩ := hf y (List.mem_of_getLast? hy)
    rw [h1]; exact hz d' h0), addLast_snoc]
   unfold placeOn
   refine List.ext_getElem (by simp) fun i h1 h2 => ?_
   simp only [List.getElem_mapIdx]
   by_cases hio : i < out.length
   ·rw [List.getElem_append_left hio, List.getElem_append_left (by simpa using hio)]
    simp [bare, hio]
   ·have : i = out.length := by simp at h1; omega
    subst this
    simp
  ·have hfd : (d :: r).filter (fun d => decide (d < e)) = d :: r.filter fun d => decide (d < e) := by rw [List.filter_cons, if_pos (by simp; omega)]
   rw [hfd, List.flatMap_cons, refGo, if_neg he]
   have hgt : ∀ {t : List (Int × Ti)}, (∀ p ∈ t, p.1 ∈ r) → ∀ p ∈ t, d < p.1 := fun ht p hp => h'.1 _ (ht p hp)
   have hnew : (∀ y, out.getLast? = some y → y.ti ≠ f d) → refGo e f mv r (addLast (newPart out d (f d)) (mv d)) = placeOn (partsGo e f r (out.map bare ++ [(d, f d)])) out (mv d ++ (r.filter fun d => decide (d < e)).flatMap mv) := fun hn => by
    rw [newPart_new hn, addLast_snoc]
    have hmap : (out ++ [(⟨d, f d, [] ++ mv d⟩ : Pa)]).map bare = out.map bare ++ [(d, f d)] := by simp [bare]
    rw [refGo_eq e f mv hz hs hmv r _ h'.2 (fun x hx => hnn x (by simp [hx])) (fun p hp x hx => by
     rcases List.mem_append.1 hp with hp | hp
     ·exact ho p hp x (by simp [hx])
     ·simp only [List.mem_cons, List.not_mem_nil, or_false] at hp; subst hp; exact h'.1 x hx) (fun p hp => by
     rcases List.mem_append.1 hp with hp | hp
     ·exact hf p hp
     ·simp only [List.mem_cons, List.not_mem_nil, or_false] at hp; subst hp; exact ⟨d, hd0, rfl⟩), hmap]
    obtain ⟨t, ht1, ht2⟩ := partsGo_more e f r (out.map bare ++ [(d, f d)])
    refine place_shift (hmv d) fun i => ?_
    rw [ht1, partAt_pre (fun p hp => by
     rcases List.mem_append.1 hp with hp | hp
     ·exact hle p hp
     ·simp only [List.mem_cons, List.not_mem_nil, or_false] at hp; subst hp; exact Int.le_refl _) (hgt ht2), mvAt_snoc]
    simp only [List.length_append, List.length_map, List.length_cons, List.length_nil, Nat.zero_add, Nat.add_sub_cancel, List.nil_append]
    by_cases hi' : i = out.length
    ·subst hi'
     rw [if_pos rfl, if_pos rfl, mvAt_out (Nat.le_refl _), List.nil_append]
    ·rw [if_neg hi', if_neg (fun h => hi' h.symm)]
   rcases List.eq_nil_or_concat out with hnil | ⟨out0, y, hc⟩
   ·subst hnil
    rw [List.map_nil, partsGo_first he]
    exact hnew (by simp)
   ·rw [List.concat_eq_append] at hc
    by_cases hy : y.ti = f d
    ·have hmap : out.map bare = out0.map bare ++ [(y.day, y.ti)] := by rw [hc]; simp [bare]
     have hmap2 : (out0 ++ [(⟨y.day, y.ti, y.moves ++ mv d⟩ : Pa)]).map bare = out.map bare := by rw [hmap]; simp [bare]
     rw [hc, newPart_snoc, if_pos hy, addLast_snoc, ← hc, hmap, partsGo_same he (by show sameTi (f d) y.ti = true; rw [hy]; exact sameTi_self _), ← hmap]
     rw [refGo_eq e f mv hz hs hmv r _ h'.2 (fun x hx => hnn x (by simp [hx])) (fun p hp x hx => by
      rcases List.mem_append.1 hp with hp | hp
      ·exact ho p (by rw [hc]; simp [hp]) x (by simp [hx])
      ·simp only [List.mem_cons, List.not_mem_nil, or_false] at hp; subst hp; exact ho y (by rw [hc]; simp) x (by simp [hx])) (fun p hp => by
      rcases List.mem_append.1 hp with hp | hp
      ·exact hf p (by rw [hc]; simp [hp])
      ·simp only [List.mem_cons, List.not_mem_nil, or_false] at hp; subst hp; exact hf y (by rw [hc]; simp)), hmap2]
     obtain ⟨t, ht1, ht2⟩ := partsGo_more e f r (out.map bare)
     refine place_shift (hmv d) fun i => ?_
     rw [ht1, partAt_pre hle (hgt ht2), hc, mvAt_snoc, mvAt_snoc]
     simp only [List.length_append, List.length_map, List.length_cons, List.length_nil, Nat.zero_add, Nat.add_sub_cancel]
     by_cases hi' : i = out0.length
     ·subst hi'
      rw [if_pos rfl, if_pos rfl]; simp
     ·rw [if_neg hi', if_neg (fun h => hi' h.symm), if_neg hi']
    ·have hmap : out.map bare = out0.map bare ++ [(y.day, y.ti)] := by rw [hc]; simp [bare]
     have hne : sameTi (f d) y.ti = false := by
      cases hsm : sameTi (f d) y.ti with
      | false => rfl
      | true =>
       obtain ⟨d', h0, h1⟩ := hf y (by rw [hc]; simp)
       rw [h1] at hsm
       exact absurd (h1.trans (hs d d' hd0 h0 hsm).symm) hy
     rw [hmap, partsGo_new he hne, ← hmap]
     exact hnew (fun z hz' => by
      rw [hc, List.getLast?_concat] at hz'
      cases hz'
      exact hy)
end Go.Proofs.YtojckjngjfgfdaaGreat
namespace Go.Proofs.YtojckjngjfgfdaaGreat
set_option linter.unusedSimpArgs false
set_option linter.unusedVariables false
open Go.Proofs.YtojckjngjfgfdaaGreat.Vc
/-! ### Parts are determined by what they hold -/
theorem hold_one {p : Int × Ti} {P : List (Int × Ti)} {x : Int} (h1 : p.1 ≤ x) (h2 : ∀ q ∈ P, x < q.1) : holdP (p :: P) x = some p := by
 unfold holdP
 rw [List.filter_cons, if_pos (by simpa using h1), List.filter_eq_nil_iff.2 (fun q hq => by have := h2 q hq; simp; omega)]
 rfl
theorem hold_tail {p q : Int × Ti} {P : List (Int × Ti)} {x : Int} (h1 : p.1 ≤ x) (h2 : q.1 ≤ x) : holdP (p :: q :: P) x = holdP (q :: P) x := by
 have e1 : (p :: q :: P).filter (fun p => decide (p.1 ≤ x)) = p :: q :: P.filter fun p => decide (p.1 ≤ x) := by simp [h1, h2]
 have e2 : (q :: P).filter (fun p => decide (p.1 ≤ x)) = q :: P.filter fun p => decide (p.1 ≤ x) := by simp [h2]
 unfold holdP
 rw [e1, e2, List.getLast?_cons_cons]
theorem AdjNe.tail {p : Int × Ti} {P : List (Int × Ti)} (h : AdjNe (p :: P)) : AdjNe P := fun i hi => by
 have := h (i + 1) (by simp; omega)
 simpa using this
theorem parts_unique : ∀ (P Q : List (Int × Ti)), Inc (P.map (·.1)) → Inc (Q.map (·.1)) → AdjNe P → AdjNe Q → P.head?.map (·.1) = Q.head?.map (·.1) →
  (∀ x, x ∈ P.map (·.1) ∨ x ∈ Q.map (·.1) → (holdP P x).map (·.2) = (holdP Q x).map (·.2)) → P = Q
 | [], [], _, _, _, _, _, _ => rfl
 | [], q :: Q, _, _, _, _, h, _ => by simp at h
 | p :: P, [], _, _, _, _, h, _ => by simp at h
 | p :: P, q :: Q, hp, hq, ap, aq, h0, hh => by
  simp only [List.head?_cons, Option.map_some, Option.some.injEq] at h0
  have hp' := List.pairwise_cons.1 (show Inc (p.1 :: P.map (·.1)) from hp)
  have hq' := List.pairwise_cons.1 (show Inc (q.1 :: Q.map (·.1)) from hq)
  have hpl : ∀ y ∈ P, p.1 < y.1 := fun y hy => hp'.1 y.1 (List.mem_map_of_mem hy)
  have hql : ∀ y ∈ Q, q.1 < y.1 := fun y hy => hq'.1 y.1 (List.mem_map_of_mem hy)
  have e1 := hh p.1 (.inl (by simp))
  rw [hold_one (Int.le_refl _) hpl, hold_one (by omega) (fun y hy => by have := hql y hy; omega)] at e1
  simp only [Option.map_some, Option.some.injEq] at e1
  have hpq : p = q := Prod.ext h0 e1
  subst hpq
  congr 1
  rcases P with _ | ⟨p1, P⟩ <;> rcases Q with _ | ⟨q1, Q⟩
  ·rfl
  ·exfalso
   have := hh q1.1 (.inr (by simp))
   have h1 := hql q1 (by simp)
   rw [hold_one (by omega) (by simp), hold_tail (by omega) (Int.le_refl _), hold_one (Int.le_refl _) (fun y hy => (List.pairwise_cons.1 hq'.2).1 y.1 (List.mem_map_of_mem hy))] at this
   simp only [Option.map_some, Option.some.injEq] at this
   exact aq 0 (by simp) this
  ·exfalso
   have := hh p1.1 (.inl (by simp))
   have h1 := hpl p1 (by simp)
   rw [hold_one (P := []) (by omega) (by simp), hold_tail (by omega) (Int.le_refl _), hold_one (Int.le_refl _) (fun y hy => (List.pairwise_cons.1 hp'.2).1 y.1 (List.mem_map_of_mem hy))] at this
   simp only [Option.map_some, Option.some.injEq] at this
   exact ap 0 (by simp) this.symm
  ·have hpt : ∀ y ∈ P, p1.1 < y.1 := fun y hy => (List.pairwise_cons.1 hp'.2).1 y.1 (List.mem_map_of_mem hy)
   have hqt : ∀ y ∈ Q, q1.1 < y.1 := fun y hy => (List.pairwise_cons.1 hq'.2).1 y.1 (List.mem_map_of_mem hy)
   have h1 := hpl p1 (by simp)
   have h2 := hql q1 (by simp)
   have hd : p1.1 = q1.1 := by
    rcases Int.lt_trichotomy p1.1 q1.1 with h | h | h
    ·exfalso
     have := hh p1.1 (.inl (by simp))
     rw [hold_tail (by omega) (Int.le_refl _), hold_one (Int.le_refl _) hpt, hold_one (by omega) (fun y hy => by
      rcases List.mem_cons.1 hy with rfl | hy
      ·exact h
      ·have := hqt y hy; omega)] at this
     simp only [Option.map_some, Option.some.injEq] at this
     exact ap 0 (by simp) this.symm
    ·exact h
    ·exfalso
     have := hh q1.1 (.inr (by simp))
     rw [hold_tail (p := p) (q := q1) (by omega) (Int.le_refl _), hold_one (p := q1) (Int.le_refl _) hqt, hold_one (by omega) (fun y hy => by
      rcases List.mem_cons.1 hy with rfl | hy
      ·exact h
      ·have := hpt y hy; omega)] at this
     simp only [Option.map_some, Option.some.injEq] at this
     exact aq 0 (by simp) this
   refine parts_unique (p1 :: P) (q1 :: Q) hp'.2 hq'.2 ap.tail aq.tail (by simp [hd]) fun x hx => ?_
   have hx1 : p1.1 ≤ x := by
    rcases hx with hx | hx
    ·obtain ⟨y, hy, rfl⟩ := List.mem_map.1 hx
     rcases List.mem_cons.1 hy with rfl | hy
     ·exact Int.le_refl _
     ·have := hpt y hy; omega
    ·obtain ⟨y, hy, rfl⟩ := List.mem_map.1 hx
     rcases List.mem_cons.1 hy with rfl | hy
     ·omega
     ·have := hqt y hy; omega
   have := hh x (hx.imp (fun h => by simp only [List.map_cons, List.mem_cons] at h ⊢; exact .inr h) (fun h => by simp only [List.map_cons, List.mem_cons] at h ⊢; exact .inr h))
   rw [hold_tail (by omega) hx1, hold_tail (by omega) (by omega)] at this
   exact this
/-! ### The moves, day by day -/
theorem flat_perm : ∀ (days : List Int) (L : List Mv), Inc days → (∀ m ∈ L, m.day ∈ days) → (days.flatMap fun d => L.filter fun m => decide (m.day = d)).Perm L
 | [], L, _, h => by
  cases L with
  | nil => exact List.Perm.refl _
  | cons m r => exact absurd (h m (by simp)) (by simp)
 | d :: r, L, hi, h => by
  have hi' := List.pairwise_cons.1 hi
  rw [List.flatMap_cons]
  have h1 := flat_perm r (L.filter fun m => !decide (m.day = d)) hi'.2 (fun m hm => by
   obtain ⟨h2, h3⟩ := List.mem_filter.1 hm
   rcases List.mem_cons.1 (h m h2) with h4 | h4
   ·simp [h4] at h3
   ·exact h4)
  have h2 : (r.flatMap fun x => (L.filter fun m => !decide (m.day = d)).filter fun m => decide (m.day = x)) = r.flatMap fun x => L.filter fun m => decide (m.day = x) := by
   simp only [List.flatMap_def]
   congr 1
   refine List.map_congr_left fun x hx => ?_
   rw [List.filter_filter]
   refine List.filter_congr fun m _ => ?_
   have := hi'.1 x hx
   by_cases hm : m.day = x
   ·have : ¬ m.day = d := by omega
    simp [hm, this]; omega
   ·simp [hm]
  rw [h2] at h1
  exact (List.Perm.append_left _ h1).trans (List.filter_append_perm (fun m : Mv => decide (m.day = d)) L)
theorem flat_sorted : ∀ (days : List Int) (L : List Mv), Inc days → (days.flatMap fun d => L.filter fun m => decide (m.day = d)).Pairwise fun a b => a.day ≤ b.day
 | [], _, _ => List.Pairwise.nil
 | d :: r, L, hi => by
  have hi' := List.pairwise_cons.1 hi
  rw [List.flatMap_cons, List.pairwise_append]
  refine ⟨?_, flat_sorted r L hi'.2, fun a ha b hb => ?_⟩
  ·refine List.pairwise_of_forall_mem_list fun a ha b hb => ?_
   have h1 := (List.mem_filter.1 ha).2
   have h2 := (List.mem_filter.1 hb).2
   simp at h1 h2; omega
  ·have h1 := (List.mem_filter.1 ha).2
   obtain ⟨x, hx, hb⟩ := List.mem_flatMap.1 hb
   have h2 := (List.mem_filter.1 hb).2
   have := hi'.1 x hx
   simp at h1 h2; omega
end Go.Proofs.YtojckjngjfgfdaaGreat
namespace Go.Proofs.YtojckjngjfgfdaaGreat
set_option linter.unusedSimpArgs false
set_option linter.unusedVariables false
open Go.Proofs.YtojckjngjfgfdaaGreat.Vc
/-! ### The reference's Merge is ours: plain facts -/
theorem tiOn_const (s : Se) (rl : List Nd) (o : List De) {x d : Int} (hd : d ≤ x) (hk : ∀ q ∈ o, q.day ≤ x → q.day ≤ d) : tiOn s rl o x = tiOn s rl o d := by
 have key : ∀ q ∈ o, (x < q.day ↔ d < q.day) := fun q hq => ⟨fun h => by omega, fun h => by
  rcases Int.lt_or_le x q.day with h1 | h1
  ·exact h1
  ·have := hk q hq h1; omega⟩
 have hon : ∀ (l : List De) (u : On), (∀ q ∈ l, q ∈ o) → onE x u l = onE d u l := by
  intro l
  induction l with
  | nil => intro u _; rfl
  | cons q l ih =>
   intro u hq
   have hs : stepOn x u q = stepOn d u q := by
    unfold stepOn
    have := key q (hq q (by simp))
    by_cases h1 : x < q.day
    ·rw [if_pos h1, if_pos (this.1 h1)]
    ·rw [if_neg h1, if_neg (fun h2 => h1 (this.2 h2))]
   show onE x (stepOn x u q) l = onE d (stepOn d u q) l
   rw [hs]
   exact ih _ fun q' hq' => hq q' (by simp [hq'])
 unfold tiOn
 rw [hon o _ fun _ h => h]
theorem lastLe_max {l : List Int} {x d y : Int} (hi : Inc l) (h : lastLe l x = some d) (hy : y ∈ l) (hyx : y ≤ x) : y ≤ d := by
 have hm : y ∈ l.filter fun d => decide (d ≤ x) := List.mem_filter.2 ⟨hy, by simpa using hyx⟩
 unfold lastLe at h
 obtain ⟨l0, hl⟩ := List.getLast?_eq_some_iff.1 h
 have hi' : Inc (l.filter fun d => decide (d ≤ x)) := List.Pairwise.sublist List.filter_sublist hi
 rw [hl] at hi' hm
 rcases List.mem_append.1 hm with h2 | h2
 ·have := (List.pairwise_append.1 hi').2.2 _ h2 d (by simp); omega
 ·simp at h2; omega
theorem lastLe_some {l : List Int} {x y : Int} (hy : y ∈ l) (hyx : y ≤ x) : ∃ d, lastLe l x = some d := by
 cases h : lastLe l x with
 | some d => exact ⟨d, rfl⟩
 | none =>
  unfold lastLe at h
  rw [List.getLast?_eq_none_iff, List.filter_eq_nil_iff] at h
  exact absurd (by simpa using hyx) (h y hy)
section
variable {s : Se} {rl : List Nd} {ms : List Mv} {o : List De} {days : List Int} (hs : SortedD o) (hv : ∀ d ∈ o, validD d = true) (hm : movesOK none ms = true) (hl : 1 ≤ s.length)
 (hi : Inc days) (h0 : ∃ r, days = 0 :: r) (hb : ∀ d ∈ days, 0 ≤ d ∧ d ≤ 1099511627776) (hsub : ∀ q ∈ o, q.day ∈ days)
include hs hv hl hi h0 hb hsub
theorem ref_parts : partsGo (endE (forceD o)) (tiOn s rl (forceD o)) days [] = partsD s rl (forceD o) (endE (forceD o)) := by
 have hvf : ∀ d ∈ forceD o, validD d = true := fun d hd => hv d (mem_forceD.1 hd).1
 have hdays := partsD_days s rl (forceD o) (endE (forceD o)) (fun d hd => (valid_day (hvf d hd)).1)
 have hz : ∀ d, tiOn s rl (forceD o) d ≠ Ti.zero := fun d e => by
  have := tiOn_length s rl hvf hl d
  rw [e] at this; simp [Ti.zero] at this
 obtain ⟨r, hr⟩ := h0
 obtain ⟨q, h1, h2⟩ := partsGo_head (endE (forceD o)) (tiOn s rl (forceD o)) 0 r
 rw [← hr] at h1
 have hinc : Inc ((partsGo (endE (forceD o)) (tiOn s rl (forceD o)) days []).map (·.1)) := by
  rw [h1]; exact List.Pairwise.sublist (h2.cons_cons 0) (hr ▸ hi)
 refine parts_unique _ _ hinc hdays.1 (adj_go _ _ hz _ _ (fun i hi => by simp at hi) (by simp)) (adj_go _ _ hz _ _ (fun i hi => by simp at hi) (by simp)) ?_ fun x hx => ?_
 ·obtain ⟨r', hr'⟩ := hdays.2.1
  rw [← List.head?_map, ← List.head?_map, h1, hr']; rfl
 ·have hx0 : 0 ≤ x ∧ x ≤ 1099511627776 := by
   rcases hx with hx | hx
   ·rw [h1] at hx
    exact hb x (hr ▸ (h2.cons_cons 0).subset hx)
   ·have hsub2 : x ∈ rising (0 :: (forceD o).map (·.day)) := by
     obtain ⟨r2, hr2⟩ := rising_zero (l := (forceD o).map (·.day)) (fun x hx => by obtain ⟨d, hd, rfl⟩ := List.mem_map.1 hx; exact (valid_day (hvf d hd)).1)
     obtain ⟨q2, k1, k2⟩ := partsGo_head (endE (forceD o)) (tiOn s rl (forceD o)) 0 r2
     unfold partsD at hx
     rw [hr2] at hx ⊢
     rw [k1] at hx
     exact (k2.cons_cons 0).subset hx
    rw [mem_rising] at hsub2
    rcases List.mem_cons.1 hsub2 with rfl | hsub2
    ·omega
    ·obtain ⟨d, hd, rfl⟩ := List.mem_map.1 hsub2
     exact valid_day (hvf d hd)
  obtain ⟨d', hd'⟩ := force_hold s rl hs hv hx0
  rw [hd']
  obtain ⟨d, hd⟩ := lastLe_some (l := days) (x := x) (y := 0) (by rw [hr]; simp) hx0.1
  obtain ⟨d2, hd2⟩ := (hold_go (endE (forceD o)) (tiOn s rl (forceD o)) (fun a b ha hb h => tiOn_same s rl hvf ha hb h) days [] hi (fun d hd => (hb d hd).1) (by simp) (by simp) x).2 d hd
  rw [hd2]
  obtain ⟨hm1, hm2⟩ := lastLe_mem hd
  have hmax : ∀ q ∈ forceD o, q.day ≤ x → q.day ≤ d := fun q hq hqx => lastLe_max hi hd (hsub q (mem_forceD.1 hq).1) hqx
  rw [← tiOn_const s rl (forceD o) hm2 hmax]
  simp only [Option.map_some, Option.some.injEq]
  rcases end_cases (o := o) with h | ⟨w, hw, _, hwd⟩
  ·rw [if_neg (by omega), if_neg (by omega)]
  ·by_cases he : endE (forceD o) ≤ x
   ·have := hmax w hw (by omega)
    rw [if_pos (by omega), if_pos he]
   ·rw [if_neg (by omega), if_neg he]
include hm
theorem ref_merge (hms : ∀ m ∈ ms, m.day ∈ days) : refGo (endE (forceD o)) (tiOn s rl (forceD o)) (fun d => (movesD ms (forceD o) (endE (forceD o))).filter fun m => decide (m.day = d)) days [] = mergeP s rl ms o := by
 have hvf : ∀ d ∈ forceD o, validD d = true := fun d hd => hv d (mem_forceD.1 hd).1
 have hz : ∀ d, 0 ≤ d → tiOn s rl (forceD o) d ≠ Ti.zero := fun d _ e => by
  have := tiOn_length s rl hvf hl d
  rw [e] at this; simp [Ti.zero] at this
 rw [refGo_eq _ _ _ hz (fun a b ha hb h => tiOn_same s rl hvf ha hb h) (fun d m hm => by simpa using (List.mem_filter.1 hm).2) days [] hi (fun d hd => (hb d hd).1) (by simp) (by simp), List.map_nil, ref_parts hs hv hl hi h0 hb hsub, placeOn_nil]
 unfold mergeP
 congr 1
 have hday : ∀ m ∈ movesD ms (forceD o) (endE (forceD o)), m.day ∈ days.filter fun d => decide (d < endE (forceD o)) := fun m hmm => by
  rw [List.mem_filter]
  unfold movesD at hmm
  rcases List.mem_append.1 hmm with h | h
  ·obtain ⟨d, hd, rfl⟩ := List.mem_map.1 h
   obtain ⟨hd1, hd2⟩ := List.mem_filter.1 hd
   have hk : d.kind = 1 := by simpa [isMove] using hd2
   have he := (validD_move (hvf d hd1) hk).2
   have := force_lt_end hv hd1 (.inl hk)
   rw [he]
   exact ⟨hsub d (mem_forceD.1 hd1).1, by simpa using this⟩
  ·obtain ⟨h1, h2⟩ := List.mem_filter.1 h
   simp only [Bool.and_eq_true, decide_eq_true_eq] at h2
   exact ⟨hms m h1, by simpa using h2.1⟩
 have hif : Inc (days.filter fun d => decide (d < endE (forceD o))) := List.Pairwise.sublist List.filter_sublist hi
 exact sortM_eq (movesD_ne hs hv hm) (flat_perm _ _ hif hday) (flat_sorted _ _ hif)
end
end Go.Proofs.YtojckjngjfgfdaaGreat
namespace Go.Proofs.YtojckjngjfgfdaaGreat
set_option linter.unusedSimpArgs false
set_option linter.unusedVariables false
open Go.Proofs.YtojckjngjfgfdaaGreat.Vc
/-! ### The move of a day, as the reference finds it -/
def mvStep (x : Int) (cur : List Mv) (d : De) : List Mv := if x < d.day then cur else if d.kind = 1 then (if d.day = x then [d.mv] else cur) else if d.kind = 3 then [] else cur
def mvRef (ms : List Mv) (o : List De) (x : Int) : List Mv := o.foldl (mvStep x) (ms.filter fun m => decide (m.day = x))
def relOn (x : Int) (d : De) : Bool := isMoveOn x d || isRuleTo x d
theorem mvRef_eq (ms : List Mv) (x : Int) (o : List De) : mvRef ms o x = match lastOf (relOn x) o with
  | none => ms.filter fun m => decide (m.day = x)
  | some c => if c.kind = 1 then [c.mv] else [] := by
 refine list_snoc_ind (P := fun o => mvRef ms o x = match lastOf (relOn x) o with
  | none => ms.filter fun m => decide (m.day = x)
  | some c => if c.kind = 1 then [c.mv] else []) rfl (fun l d ih => ?_) o
 have h1 : mvRef ms (l ++ [d]) x = mvStep x (mvRef ms l x) d := by unfold mvRef; rw [List.foldl_append]; rfl
 rw [h1, lastOf_snoc]
 unfold mvStep relOn isMoveOn isRuleTo
 by_cases h0 : x < d.day
 ·have a1 : ¬ d.day = x := by omega
  have a2 : ¬ d.day ≤ x := by omega
  rw [if_pos h0]
  simp only [a1, a2, decide_false, Bool.and_false, Bool.or_false, Bool.false_eq_true, if_false]
  exact ih
 ·have a2 : d.day ≤ x := by omega
  rw [if_neg h0]
  by_cases k1 : d.kind = 1
  ·by_cases hd : d.day = x
   ·simp [k1, hd]
   ·simp only [k1, hd, if_true, if_false, decide_true, decide_false, Bool.and_false, Bool.false_and, Bool.or_false, Bool.false_eq_true, show ¬ (1 : Int) = 3 by omega]
    exact ih
  ·by_cases k3 : d.kind = 3
   ·simp [k3, a2]
   ·simp only [k1, k3, if_false, decide_false, Bool.false_and, Bool.or_false, Bool.false_eq_true]
    exact ih
theorem filt_one {L : List Mv} (hp : L.Pairwise fun a b => a.day ≠ b.day) {m : Mv} {x : Int} (hm : m ∈ L) (hx : m.day = x) : L.filter (fun m => decide (m.day = x)) = [m] := by
 induction L with
 | nil => simp at hm
 | cons a L ih =>
  have hp' := List.pairwise_cons.1 hp
  rcases List.mem_cons.1 hm with rfl | hm'
  ·rw [List.filter_cons, if_pos (by simpa using hx), List.filter_eq_nil_iff.2]
   intro b hb
   have := hp'.1 b hb
   simp; omega
  ·have := hp'.1 m hm'
   rw [List.filter_cons, if_neg (by simp; omega), ih hp'.2 hm']
theorem mvRef_day {ms : List Mv} {o : List De} (hs : SortedD o) (hv : ∀ d ∈ o, validD d = true) (hm : movesOK none ms = true) {x : Int} (he : x < endE (forceD o)) :
  mvRef ms o x = (movesD ms (forceD o) (endE (forceD o))).filter fun m => decide (m.day = x) := by
 have hvf : ∀ d ∈ forceD o, validD d = true := fun d hd => hv d (mem_forceD.1 hd).1
 have hne := movesD_ne (e := endE (forceD o)) hs hv hm
 rw [mvRef_eq]
 -- what lies in force of the last one that concerns the day
 have hforce : ∀ c, lastOf (relOn x) o = some c → c ∈ forceD o := fun c h => by
  obtain ⟨hc, hp⟩ := lastOf_some h
  have hp' : (c.kind = 1 ∧ c.day = x) ∨ (c.kind = 3 ∧ c.day ≤ x) := by simpa [relOn, isMoveOn, isRuleTo] using hp
  refine mem_forceD.2 ⟨hc, fun b hb => ?_⟩
  cases hcb : overD c b with
  | false => rfl
  | true =>
   exfalso
   rw [overD_iff] at hcb
   have hw : b.kind = 5 → b.day ≤ c.day → False := fun h1 h2 => by have := endE_le hs hb h1; omega
   have hl : relOn x b = true → lessD c b = true → False := fun h1 h3 => by
    rcases lastOf_max hs h hb h1 with e | e
    ·rw [e, lessD_irrefl] at h3; cases h3
    ·rw [lessD_asymm e] at h3; cases h3
   have hr : (b.kind = 1 ∧ b.day = x) ∨ (b.kind = 3 ∧ b.day ≤ x) → relOn x b = true := fun h => by
    unfold relOn isMoveOn isRuleTo
    rcases h with ⟨h1, h2⟩ | ⟨h1, h2⟩ <;> simp [h1, h2]
   rcases hcb with ⟨h1, h2, h3, h4⟩ | ⟨h1, h3, h4⟩ | ⟨h1, _⟩ | ⟨h1, h2, h3⟩ | ⟨h1, h2, h3⟩
   ·exact hl (hr (by omega)) h3
   ·exact hl (hr (by omega)) h3
   ·omega
   ·exact hw h2 h3
   ·omega
 cases h : lastOf (relOn x) o with
 | none =>
  have hno := lastOf_none h
  simp only [relOn, Bool.or_eq_false_iff] at hno
  unfold movesD
  rw [List.filter_append]
  have e1 : (((forceD o).filter isMove).map (·.mv)).filter (fun m => decide (m.day = x)) = [] := by
   rw [List.filter_eq_nil_iff]
   intro m hm'
   obtain ⟨d, hd, rfl⟩ := List.mem_map.1 hm'
   obtain ⟨hd1, hd2⟩ := List.mem_filter.1 hd
   have hk : d.kind = 1 := by simpa [isMove] using hd2
   have h1 := (hno d (mem_forceD.1 hd1).1).1
   have h2 := (validD_move (hvf d hd1) hk).2
   simp [isMoveOn, hk] at h1
   simp; omega
  rw [e1, List.nil_append, List.filter_filter]
  refine List.filter_congr fun m _ => ?_
  by_cases hmx : m.day = x
  ·have a1 : (forceD o).any (isMoveOn x) = false := List.any_eq_false.2 fun d hd => by rw [(hno d (mem_forceD.1 hd).1).1]; simp
   have a2 : (forceD o).any (isRuleTo x) = false := List.any_eq_false.2 fun d hd => by rw [(hno d (mem_forceD.1 hd).1).2]; simp
   simp [hmx, a1, a2, he]
  ·simp [hmx]
 | some c =>
  have hcf := hforce c h
  obtain ⟨hc, hp⟩ := lastOf_some h
  have hp' : (c.kind = 1 ∧ c.day = x) ∨ (c.kind = 3 ∧ c.day ≤ x) := by simpa [relOn, isMoveOn, isRuleTo] using hp
  dsimp only
  by_cases k1 : c.kind = 1
  ·rw [if_pos k1]
   have hday := (validD_move (hvf c hcf) k1).2
   refine (filt_one hne ?_ (by omega)).symm
   unfold movesD
   exact List.mem_append_left _ (List.mem_map_of_mem (List.mem_filter.2 ⟨hcf, by simp [isMove, k1]⟩))
  ·rw [if_neg k1]
   have k3 : c.kind = 3 ∧ c.day ≤ x := by omega
   refine (List.filter_eq_nil_iff.2 fun m hm' => ?_).symm
   unfold movesD at hm'
   simp only [decide_eq_true_eq]
   intro hmx
   rcases List.mem_append.1 hm' with h1 | h1
   ·obtain ⟨d, hd, rfl⟩ := List.mem_map.1 h1
    obtain ⟨hd1, hd2⟩ := List.mem_filter.1 hd
    have hk : d.kind = 1 := by simpa [isMove] using hd2
    have h2 := (validD_move (hvf d hd1) hk).2
    have hrel : relOn x d = true := by
     have : d.day = x := by omega
     simp [relOn, isMoveOn, hk, this]
    rcases lastOf_max hs h (mem_forceD.1 hd1).1 hrel with e | e
    ·rw [e] at hk; omega
    ·have h3 : ¬ overD d c = true := by rw [(mem_forceD.1 hd1).2 c hc]; simp
     rw [overD_iff] at h3
     exact h3 (.inr (.inl ⟨.inl ⟨hk, k3.1⟩, e, by omega⟩))
   ·obtain ⟨_, h2⟩ := List.mem_filter.1 h1
    have : (forceD o).any (isRuleTo m.day) = true := List.any_eq_true.2 ⟨c, hcf, by simp [isRuleTo, k3.1]; omega⟩
    simp [this] at h2
end Go.Proofs.YtojckjngjfgfdaaGreat
namespace Go.Proofs.YtojckjngjfgfdaaGreat
set_option linter.unusedSimpArgs false
set_option linter.unusedVariables false
open Go.Proofs.YtojckjngjfgfdaaGreat.Vc
/-! ### Inserting, as the reference does: plain facts -/
/-- The same for days. -/
def insI (l : List Int) (x : Int) : List Int := let r := l.dropWhile fun y => decide (y < x); (l.takeWhile fun y => decide (y < x)) ++ (if r.head? = some x then r else x :: r)
theorem insI_inc {l : List Int} {x : Int} (h : Inc l) : Inc (insI l x) := by
 have hs := h
 rw [← List.takeWhile_append_dropWhile (p := fun y => decide (y < x)) (l := l)] at hs
 have hs' := List.pairwise_append.1 hs
 have ht : ∀ a ∈ l.takeWhile (fun y => decide (y < x)), a < x := fun a ha => by simpa using mem_tw ha
 unfold insI
 dsimp only
 split
 ·exact hs
 ·rename_i hh
  have hd : ∀ b ∈ l.dropWhile (fun y => decide (y < x)), x < b := by
   intro b hb
   cases hr : l.dropWhile (fun y => decide (y < x)) with
   | nil => rw [hr] at hb; simp at hb
   | cons y r =>
    have h4 := List.head_dropWhile_not (fun y => decide (y < x)) (l := l) (by rw [hr]; simp)
    simp only [hr, List.head_cons, decide_eq_false_iff_not] at h4
    have hy : x < y := by
     rcases Int.lt_trichotomy x y with h | h | h
     ·exact h
     ·rw [hr, h] at hh; simp at hh
     ·exact absurd h h4
    have h5 := hs'.2.1
    rw [hr] at h5 hb
    rcases List.mem_cons.1 hb with rfl | hb
    ·exact hy
    ·have := (List.pairwise_cons.1 h5).1 b hb; omega
  refine List.pairwise_append.2 ⟨hs'.1, List.pairwise_cons.2 ⟨hd, hs'.2.1⟩, fun a ha b hb => ?_⟩
  rcases List.mem_cons.1 hb with rfl | hb
  ·exact ht a ha
  ·exact hs'.2.2 a ha b hb
theorem insI_mem (l : List Int) (x y : Int) : y ∈ insI l x ↔ y = x ∨ y ∈ l := by
 have hl : y ∈ l ↔ y ∈ l.takeWhile (fun y => decide (y < x)) ∨ y ∈ l.dropWhile (fun y => decide (y < x)) := by rw [← List.mem_append, List.takeWhile_append_dropWhile]
 unfold insI
 dsimp only
 rw [hl, List.mem_append]
 split
 ·rename_i hh
  have hx : x ∈ l.dropWhile (fun y => decide (y < x)) := List.mem_of_mem_head? hh
  constructor
  ·exact .inr
  ·rintro (rfl | h)
   ·exact .inr hx
   ·exact h
 ·rw [List.mem_cons]
  constructor
  ·rintro (h | h | h)
   ·exact .inr (.inl h)
   ·exact .inl h
   ·exact .inr (.inr h)
  ·rintro (h | h | h)
   ·exact .inr (.inl h)
   ·exact .inl h
   ·exact .inr (.inr h)
theorem insAll_facts (L : List De) (hL : Cons L) : ∀ (l : List De), (∀ d ∈ l, d ∈ L) → SortedD (l.foldl insD []) ∧ ∀ x, x ∈ l.foldl insD [] ↔ x ∈ l := by
 intro l
 refine list_snoc_ind (P := fun l => (∀ d ∈ l, d ∈ L) → SortedD (l.foldl insD []) ∧ ∀ x, x ∈ l.foldl insD [] ↔ x ∈ l) (fun _ => ⟨List.Pairwise.nil, by simp⟩) (fun l d ih h => ?_) l
 obtain ⟨h1, h2⟩ := ih fun x hx => h x (by simp [hx])
 rw [List.foldl_append]
 refine ⟨insD_sorted h1, fun x => ?_⟩
 show x ∈ insD (l.foldl insD []) d ↔ _
 rw [insD_mem (fun q hq hk => hL.2 q (h q (by simp [(h2 q).1 hq])) d (h d (by simp)) hk), h2]
 simp [or_comm]
theorem insAll {l o : List De} (hc : Cons l) (hl : l.length ≤ 4096) (ho : allD l = .ok o) : l.foldl insD [] = o := by
 obtain ⟨o', h1, h2, h3⟩ := allD_cons hc hl
 rw [ho] at h1
 cases h1
 obtain ⟨k1, k2⟩ := insAll_facts l hc l fun _ h => h
 exact SortedD.ext k1 h2 fun x => by rw [k2, h3]
theorem insDays (l : List Int) : ∀ (out : List Int), Inc out → Inc (l.foldl insI out) ∧ ∀ x, x ∈ l.foldl insI out ↔ x ∈ out ∨ x ∈ l := by
 induction l with
 | nil => intro out h; exact ⟨h, by simp⟩
 | cons y l ih =>
  intro out h
  obtain ⟨h1, h2⟩ := ih (insI out y) (insI_inc h)
  refine ⟨h1, fun x => ?_⟩
  rw [List.foldl_cons, h2, insI_mem, List.mem_cons]
  constructor
  ·rintro ((h | h) | h)
   ·exact .inr (.inl h)
   ·exact .inl h
   ·exact .inr (.inr h)
  ·rintro (h | h | h)
   ·exact .inl (.inr h)
   ·exact .inl (.inl h)
   ·exact .inr h
end Go.Proofs.YtojckjngjfgfdaaGreat
