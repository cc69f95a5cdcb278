import Derived.Test.YtpnhiknfcpkfbaaFa
namespace Go.Proofs.Ytpnhiknfcpkfbaa
set_option linter.unusedSimpArgs false
set_option linter.unusedVariables false
open Go.Proofs.Ytpnhiknfcpkfbaa.Vc
def mv0 : Mv := ⟨0, false, 0, 0, 0⟩
def dMove : De := ⟨1, 9, 1, 64, ⟨9, true, 0, 0, 0⟩, 0, 0, [], ⟨#[]⟩⟩
def dRule : De := ⟨3, 5, 2, 65, mv0, 0, 0, ruleN 0, ⟨#[]⟩⟩
def dGone : De := ⟨5, 20, 1, 3, mv0, 0, 0, [], ⟨#[]⟩⟩
theorem allD_of {l o s : List De} (h0 : l.length ≤ 4096) (h : distD [] l = some o) (hp : s.Perm o) (hs : SortedD s) : allD l = .ok s := by
  unfold allD
  rw [if_neg (by omega), h]
  show Except.ok (sortD o) = _
  rw [← sortD_eq (distD_keys h List.Pairwise.nil) hp (hs.imp fun h => lessD_asymm h)]
theorem san1 : allD [dRule, dMove] = .ok [dMove, dRule] := allD_of (o := [dRule, dMove]) (by decide) (by decide) (List.Perm.swap _ _ _) (by unfold SortedD; decide)
theorem san2 : allD [dMove, dGone] = .ok [dGone, dMove] := allD_of (o := [dMove, dGone]) (by decide) (by decide) (List.Perm.swap _ _ _) (by unfold SortedD; decide)
theorem san3 : allD [dGone] = .ok [dGone] := allD_of (o := [dGone]) (by decide) (by decide) (List.Perm.refl _) (by unfold SortedD; decide)
theorem san4 : forceD [dMove, dRule] = [dRule] ∧ recsD [dMove, dRule] = [⟨1, 64, 2, 65⟩] := by decide
theorem san5 : forceD [dGone, dMove] = [dGone, dMove] ∧ endE [dGone, dMove] = 20 ∧ forceD [dGone] = [dGone] ∧ endE [dGone] = 20 := by decide
theorem san6 (s : Se) (hm : s.minute = 5) (hl : s.length = 60) : ∃ ti, mergeP s [] [] [dGone, dMove] = [⟨0, ti, [dMove.mv]⟩, ⟨20, Ti.zero, []⟩] := by
  have h1 : rising (0 :: [dGone, dMove].map (·.day)) = [0, 9, 20] := by decide
  refine ⟨tiOn s [] [dGone, dMove] 0, ?_⟩
  have h2 : partsD s [] [dGone, dMove] 20 = [(0, tiOn s [] [dGone, dMove] 0), (20, Ti.zero)] := by
    unfold partsD
    rw [h1, partsGo_first (by decide), ← List.nil_append [(0, _)], partsGo_same (by decide), partsGo_end (by decide)]
    · rfl
    · simp [sameTi, tiOn, onE, stepOn, dGone, dMove]
  have h3 : movesD [] [dGone, dMove] 20 = [dMove.mv] := by decide
  have h4 : sortM [dMove.mv] = [dMove.mv] := by simp [sortM]
  unfold mergeP
  rw [san5.1, san5.2.1, h2, h3, h4]
  rfl
theorem eSanity (R : RO) : CallsR Try.prog 11 [] R fun _ v => v = .bool true := by
  refine callsT mix Try.func11 comp11 (by simp [Try.ntmps11]) ?_; simp only [go_sem, ↓reduceIte, Nat.reduceEqDiff, Nat.reduceAdd, Nat.reduceMul, Nat.reduceLeDiff, Nat.reduceLT, Nat.reduceBNe, reduceCtorEq, vc11, rs11]
  intro b1 cap1 R1 hle1 hrow1 hcap1 hfr1
  try simp only [go_sem, ↓reduceIte, Nat.reduceEqDiff, Nat.reduceAdd, Nat.reduceMul, Nat.reduceLeDiff, Nat.reduceLT, Nat.reduceBNe, reduceCtorEq]
  have hRule : RuleV R1 (.slice (some ⟨b1, 0, none⟩) 1 cap1) dRule.rule := by
    refine ⟨[[.int .i64 1, .int .i64 0, .int .i64 0, .int .i64 0, .int .i64 1, .int .i64 0, .slice none 0 0, .string ⟨#[]⟩]], ?_, rfl, ?_, by decide⟩
    · exact RowIn.slK (k := 8) (xs := [[.int .i64 1, .int .i64 0, .int .i64 0, .int .i64 0, .int .i64 1, .int .i64 0, .slice none 0 0, .string ⟨#[]⟩]]) hrow1 (by simp) (by omega) (by simpa using hcap1)
    · intro i c x hc hx
      cases i with
      | zero =>
        simp only [List.getElem?_cons_zero, Option.some.injEq, dRule, ruleN] at hc hx
        subst hc hx
        exact ⟨_, rfl, Ints.nil _, by simp⟩
      | succ i => simp at hc
  refine vfreeze ?_
  try simp only [go_sem, ↓reduceIte, Nat.reduceEqDiff, Nat.reduceAdd, Nat.reduceMul, Nat.reduceLeDiff, Nat.reduceLT, Nat.reduceBNe, reduceCtorEq]
  intro b2 cap2 R2 hle2 hrow2 hcap2 hfr2
  have hE1 : EdsV R2 (.slice (some ⟨b2, 0, none⟩) 2 cap2) [dRule, dMove] := EdsV.row (ps := [(dRule, some ⟨b1, 0, none⟩, 1, cap1), (dMove, none, 0, 0)]) hrow2 hcap2 (fun p hp => by
    simp only [List.mem_cons, List.not_mem_nil, or_false] at hp
    rcases hp with rfl | rfl
    · exact hRule.mono hle2
    · exact RuleV.nil _) (by simp)
  refine vcall (eRebase _ _ R2 hE1) ?_
  intro R3 r hle3 hr
  unfold RebV at hr
  rw [san1] at hr
  obtain ⟨u, v, rfl, hu, hv⟩ := hr
  rw [san4.1] at hu
  rw [san4.2] at hv
  obtain ⟨ua, ucap, rfl, huc, huf⟩ := hu.form
  obtain ⟨va, vcap, rfl, hvc, hvf⟩ := hv.form
  try simp only [go_sem, ↓reduceIte, Nat.reduceEqDiff, Nat.reduceAdd, Nat.reduceMul, Nat.reduceLeDiff, Nat.reduceLT, Nat.reduceBNe, reduceCtorEq]
  refine vfreeze ?_
  try simp only [go_sem, ↓reduceIte, Nat.reduceEqDiff, Nat.reduceAdd, Nat.reduceMul, Nat.reduceLeDiff, Nat.reduceLT, Nat.reduceBNe, reduceCtorEq]
  intro b3 cap3 R4 hle4 hrow3 hcap3 hfr3
  have hE2 : EdsV R4 (.slice (some ⟨b3, 0, none⟩) 2 cap3) [dMove, dGone] := EdsV.row (ps := [(dMove, none, 0, 0), (dGone, none, 0, 0)]) hrow3 hcap3 (fun p hp => by
    simp only [List.mem_cons, List.not_mem_nil, or_false] at hp
    rcases hp with rfl | rfl <;> exact RuleV.nil _) (by simp)
  refine vcall (eMerge ⟨.slice none 0 0, 5, 60, ⟨#[]⟩, 0, 0, .slice none 0 0⟩ [] [] [dMove, dGone] _ R4 (RuleV.nil _) (EncV.nil _ _ _) hE2 (by simp)) ?_
  intro R5 r hle5 hr
  unfold MergeV at hr
  rw [san2] at hr
  dsimp only at hr
  rw [if_neg (by simp [movesOK])] at hr
  obtain ⟨p, q, rfl, hp, hq⟩ := hr
  obtain ⟨ti, hti⟩ := san6 ⟨.slice none 0 0, 5, 60, ⟨#[]⟩, 0, 0, .slice none 0 0⟩ rfl rfl
  rw [hti] at hp
  obtain ⟨qa, qcap, rfl, _⟩ := hq.form
  obtain ⟨cs, hpS, hpl, hpf, _⟩ := hp
  obtain ⟨pa, pcap, rfl, hpc, hpg⟩ := SlK.form hpS
  try simp only [go_sem, ↓reduceIte, Nat.reduceEqDiff, Nat.reduceAdd, Nat.reduceMul, Nat.reduceLeDiff, Nat.reduceLT, Nat.reduceBNe, reduceCtorEq]
  refine vfreeze ?_
  try simp only [go_sem, ↓reduceIte, Nat.reduceEqDiff, Nat.reduceAdd, Nat.reduceMul, Nat.reduceLeDiff, Nat.reduceLT, Nat.reduceBNe, reduceCtorEq]
  intro b4 cap4 R6 hle6 hrow4 hcap4 hfr4
  have hE3 : EdsV R6 (.slice (some ⟨b4, 0, none⟩) 1 cap4) [dGone] := EdsV.row (ps := [(dGone, none, 0, 0)]) hrow4 hcap4 (fun p hp => by
    simp only [List.mem_cons, List.not_mem_nil, or_false] at hp
    rcases hp with rfl; exact RuleV.nil _) (by simp)
  refine vcall (eAt Se.zero [] [dGone] _ 19 R6 (RuleV.nil _) rfl hE3) ?_
  intro R7 r hle7 hr
  unfold AtV at hr
  rw [san3] at hr
  dsimp only at hr
  rw [if_neg (by decide), san5.2.2.1, san5.2.2.2, if_neg (by decide)] at hr
  obtain ⟨rv, rfl, hrv⟩ := hr
  obtain ⟨rva, rvn, rvc, rfl⟩ := hrv.form
  try simp only [go_sem, ↓reduceIte, Nat.reduceEqDiff, Nat.reduceAdd, Nat.reduceMul, Nat.reduceLeDiff, Nat.reduceLT, Nat.reduceBNe, reduceCtorEq]
  refine ⟨rfl, by simp [Se.cells, one', Value.oneCell'], ?_⟩
  refine vfreeze ?_
  try simp only [go_sem, ↓reduceIte, Nat.reduceEqDiff, Nat.reduceAdd, Nat.reduceMul, Nat.reduceLeDiff, Nat.reduceLT, Nat.reduceBNe, reduceCtorEq]
  intro b5 cap5 R8 hle8 hrow5 hcap5 hfr5
  have hE4 : EdsV R8 (.slice (some ⟨b5, 0, none⟩) 1 cap5) [dGone] := EdsV.row (ps := [(dGone, none, 0, 0)]) hrow5 hcap5 (fun p hp => by
    simp only [List.mem_cons, List.not_mem_nil, or_false] at hp
    rcases hp with rfl; exact RuleV.nil _) (by simp)
  refine vcall (eAt Se.zero [] [dGone] _ 20 R8 (RuleV.nil _) rfl hE4) ?_
  intro R9 r hle9 hr
  unfold AtV at hr
  rw [san3] at hr
  dsimp only at hr
  rw [if_neg (by decide), san5.2.2.1, san5.2.2.2, if_pos (by decide)] at hr
  subst hr
  try simp only [go_sem, ↓reduceIte, Nat.reduceEqDiff, Nat.reduceAdd, Nat.reduceMul, Nat.reduceLeDiff, Nat.reduceLT, Nat.reduceBNe, reduceCtorEq]
  have l39 := RO.le_trans hle4 (RO.le_trans hle5 (RO.le_trans hle6 (RO.le_trans hle7 (RO.le_trans hle8 hle9))))
  have l59 := RO.le_trans hle6 (RO.le_trans hle7 (RO.le_trans hle8 hle9))
  have hcl : cs.length = 2 := hpl
  obtain ⟨ad0, ra0, rn0, rc0, had0, hR0, _⟩ := huf 0 (by decide)
  obtain ⟨ad1, had1, hR1⟩ := hvf 0 (by decide)
  obtain ⟨_, ad2, had2, hR2⟩ := hpg 0 (by omega)
  obtain ⟨_, ad3, had3, hR3⟩ := hpg 1 (by omega)
  obtain ⟨rv0, mv0', hc0, _, hm0⟩ := hpf 0 _ _ (List.getElem?_eq_getElem (by omega)) rfl
  obtain ⟨rv1, mv1', hc1, _, hm1⟩ := hpf 1 _ _ (List.getElem?_eq_getElem (by omega)) rfl
  rw [hc0] at hR2
  rw [hc1] at hR3
  obtain ⟨ma, mcap, rfl, _⟩ := hm0.form
  refine ⟨rfl, by simp [Se.zero, Se.cells, one', Value.oneCell'], ?_⟩
  have e1 : ((1 : Nat) : Int) = 1 := rfl
  have e2 : ((2 : Nat) : Int) = 2 := rfl
  have d0 : (0 : Int) < 1 := by decide
  have d1 : (0 : Int) < 2 := by decide
  have d2 : (1 : Int) < 2 := by decide
  have d3 : (0 : Int) ≤ 0 := by decide
  have d4 : (0 : Int) ≤ 1 := by decide
  have t0 : (0 : Int).toNat = 0 := rfl
  have t1 : (1 : Int).toNat = 1 := rfl
  simp only [go_sem, ↓reduceIte, Nat.reduceEqDiff, Nat.reduceAdd, Nat.reduceMul, Nat.reduceLeDiff, Nat.reduceLT, Nat.reduceBNe, reduceCtorEq, hcl, e1, e2, d0, d1, d2, d3, d4, t0, t1]
  refine vat ad0 had0 ?_
  try simp only [go_sem, ↓reduceIte, Nat.reduceEqDiff, Nat.reduceAdd, Nat.reduceMul, Nat.reduceLeDiff, Nat.reduceLT, Nat.reduceBNe, reduceCtorEq]
  refine vload (.int .i64 3) (l39 _ _ (hR0 0 _ rfl)) ?_
  simp only [go_sem, ↓reduceIte, Nat.reduceEqDiff, Nat.reduceAdd, Nat.reduceMul, Nat.reduceLeDiff, Nat.reduceLT, Nat.reduceBNe, reduceCtorEq, hcl, e1, e2, d0, d1, d2, d3, d4, t0, t1]
  refine vat ad1 had1 ?_
  try simp only [go_sem, ↓reduceIte, Nat.reduceEqDiff, Nat.reduceAdd, Nat.reduceMul, Nat.reduceLeDiff, Nat.reduceLT, Nat.reduceBNe, reduceCtorEq]
  refine vloadn (Ov.cells ⟨1, 64, 2, 65⟩) rfl (fun j u hj => l39 _ _ (hR1 j u hj)) ?_
  simp only [go_sem, ↓reduceIte, Nat.reduceEqDiff, Nat.reduceAdd, Nat.reduceMul, Nat.reduceLeDiff, Nat.reduceLT, Nat.reduceBNe, reduceCtorEq, Ov.cells, hcl, e1, e2, d0, d1, d2, d3, d4, t0, t1]
  refine vat ad3 had3 ?_
  try simp only [go_sem, ↓reduceIte, Nat.reduceEqDiff, Nat.reduceAdd, Nat.reduceMul, Nat.reduceLeDiff, Nat.reduceLT, Nat.reduceBNe, reduceCtorEq]
  refine vload (.int .i64 20) (l59 _ _ (hR3 0 _ rfl)) ?_
  simp only [go_sem, ↓reduceIte, Nat.reduceEqDiff, Nat.reduceAdd, Nat.reduceMul, Nat.reduceLeDiff, Nat.reduceLT, Nat.reduceBNe, reduceCtorEq, hcl, e1, e2, d0, d1, d2, d3, d4, t0, t1]
  refine vat ad3 had3 ?_
  try simp only [go_sem, ↓reduceIte, Nat.reduceEqDiff, Nat.reduceAdd, Nat.reduceMul, Nat.reduceLeDiff, Nat.reduceLT, Nat.reduceBNe, reduceCtorEq]
  refine vload (.int .i64 0) (l59 _ _ (hR3 3 _ rfl)) ?_
  simp only [go_sem, ↓reduceIte, Nat.reduceEqDiff, Nat.reduceAdd, Nat.reduceMul, Nat.reduceLeDiff, Nat.reduceLT, Nat.reduceBNe, reduceCtorEq, hcl, e1, e2, d0, d1, d2, d3, d4, t0, t1]
  refine vat ad2 had2 ?_
  try simp only [go_sem, ↓reduceIte, Nat.reduceEqDiff, Nat.reduceAdd, Nat.reduceMul, Nat.reduceLeDiff, Nat.reduceLT, Nat.reduceBNe, reduceCtorEq]
  refine vload (.slice ma 1 mcap) (l59 _ _ (hR2 7 _ rfl)) ?_
  simp only [go_sem, ↓reduceIte, Nat.reduceEqDiff, Nat.reduceAdd, Nat.reduceMul, Nat.reduceLeDiff, Nat.reduceLT, Nat.reduceBNe, reduceCtorEq, hcl, e1, e2, d0, d1, d2, d3, d4, t0, t1]
  refine vcall (eValid (dGone.ed none 0 0) R9) ?_
  rintro R10 v hle10 rfl
  rw [show validE (dGone.ed none 0 0) = true by decide]
  try simp only [go_sem, ↓reduceIte, Nat.reduceEqDiff, Nat.reduceAdd, Nat.reduceMul, Nat.reduceLeDiff, Nat.reduceLT, Nat.reduceBNe, reduceCtorEq]
  refine vcall (eLess (dGone.ed none 0 0) (dMove.ed none 0 0) R10) ?_
  rintro R11 v hle11 rfl
  rw [show lessE (dGone.ed none 0 0) (dMove.ed none 0 0) = true by decide]
  try simp only [go_sem, ↓reduceIte, Nat.reduceEqDiff, Nat.reduceAdd, Nat.reduceMul, Nat.reduceLeDiff, Nat.reduceLT, Nat.reduceBNe, reduceCtorEq]
  refine vcall (eOverrules (dMove.ed none 0 0) (dRule.ed (some ⟨b1, 0, none⟩) 1 cap1) R11) ?_
  rintro R12 v hle12 rfl
  rw [show overE (dMove.ed none 0 0) (dRule.ed (some ⟨b1, 0, none⟩) 1 cap1) = true from rfl]
  try simp only [go_sem, ↓reduceIte, Nat.reduceEqDiff, Nat.reduceAdd, Nat.reduceMul, Nat.reduceLeDiff, Nat.reduceLT, Nat.reduceBNe, reduceCtorEq]
end Go.Proofs.Ytpnhiknfcpkfbaa
