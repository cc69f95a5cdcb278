import Derived.Test.YtojckjngjfgfdaaGreatDg
import Derived.Test.YtojckjngjfgfdaaGreatFa
namespace Go.Proofs.YtojckjngjfgfdaaGreat
set_option linter.unusedSimpArgs false
set_option linter.unusedVariables false
open Go.Proofs.YtojckjngjfgfdaaGreat.Vc
/-! ### Package device: Series; the laws' small functions -/
/-- What Series hands back. -/
def SerV (R : RO) (r : Value) (s : Se) (rl : List Nd) (ms : List Mv) (d : Dv) : Prop :=
  if validV d = true then MergeV R r s rl ms d.edits else r = .tuple #[.slice none 0 0, .slice none 0 0, .int .i64 1]
theorem MergeV.shape {R : RO} {r : Value} {s : Se} {rl : List Nd} {ms : List Mv} {ds : List De} (h : MergeV R r s rl ms ds) : ∃ u v k, r = .tuple #[u, v, .int .i64 k] := by
  unfold MergeV at h
  split at h
  · exact ⟨_, _, _, h⟩
  · split at h
    · exact ⟨_, _, _, h⟩
    · obtain ⟨u, v, h, _⟩ := h
      exact ⟨_, _, _, h⟩
theorem dSeries (s : Se) (rl : List Nd) (ms : List Mv) (d : Dv) (v : Value) (R : RO) (hr : RuleV R s.rule rl) (hm : EncV Mv.cells 5 R s.moves ms) (h : EdsV R v d.edits) (hsz : ms.length + d.edits.length ≤ 63) :
    CallsR Tryz.prog 30 [.agg s.cells.toArray, .agg (dvCells d v).toArray] R fun R' r => SerV R' r s rl ms d := by
  have hV := dValid d v R h
  have hM := fun R' (hle : RO.le R R') => eMerge s rl ms d.edits v R' (hr.mono hle) (hm.mono hle) (h.mono hle) hsz
  have hv1 := h.one
  have hr1 := hr.one
  obtain ⟨a, cap, rfl, hc, hf⟩ := h.form
  have hM2 := hm
  obtain ⟨sr, sm, sl, sz, sg, sf, smv⟩ := s
  dsimp only at hr hm hr1 hM2
  obtain ⟨ra, rn, rc, rfl⟩ := hr.form
  obtain ⟨ma, mcap, rfl, _⟩ := hM2.form
  simp only [dvCells] at hV ⊢
  simp only [Se.cells] at hM ⊢
  refine callsT mix Tryz.func30 comp30 (by simp [Tryz.ntmps30]) ?_; simp only [go_sem, ↓reduceIte, Nat.reduceEqDiff, Nat.reduceAdd, Nat.reduceMul, Nat.reduceLeDiff, Nat.reduceLT, Nat.reduceBNe, reduceCtorEq, vc30, rs30]
  refine vcall hV ?_
  rintro R1 r hle1 rfl
  unfold SerV
  cases hv : validV d with
  | false =>
    try simp only [go_sem, ↓reduceIte, Nat.reduceEqDiff, Nat.reduceAdd, Nat.reduceMul, Nat.reduceLeDiff, Nat.reduceLT, Nat.reduceBNe, reduceCtorEq]
    try rw [if_neg (by simp)]
  | true =>
    try simp only [go_sem, ↓reduceIte, Nat.reduceEqDiff, Nat.reduceAdd, Nat.reduceMul, Nat.reduceLeDiff, Nat.reduceLT, Nat.reduceBNe, reduceCtorEq]
    refine vcall (hM R1 hle1) ?_
    intro R2 r hle2 hr2
    obtain ⟨u, w, k, rfl⟩ := hr2.shape
    try simp only [go_sem, ↓reduceIte, Nat.reduceEqDiff, Nat.reduceAdd, Nat.reduceMul, Nat.reduceLeDiff, Nat.reduceLT, Nat.reduceBNe, reduceCtorEq]
    exact hr2
def tD (m : Int) : De := ⟨2, 0, 0, 0, ⟨0, false, 0, 0, 0⟩, m, 10, [], ⟨#[]⟩⟩
theorem dTimed (m : Int) (R : RO) : CallsR Tryz.prog 50 [.int .i64 m] R fun _ r => r = .agg (((tD m).ed none 0 0).cells).toArray := by
  refine callsT mix Tryz.func50 comp50 (by simp [Tryz.ntmps50]) ?_; simp only [go_sem, ↓reduceIte, Nat.reduceEqDiff, Nat.reduceAdd, Nat.reduceMul, Nat.reduceLeDiff, Nat.reduceLT, Nat.reduceBNe, reduceCtorEq, vc50, rs50]
  exact rfl
theorem dSeqs (d : Dv) (v : Value) (next : Int) (l : Value) (xs : List Int) (R : RO) (h : EdsV R v d.edits) (hl : Ints R l xs) : CallsR Tryz.prog 51 [.agg (dvCells d v).toArray, .int .i64 next, l] R fun _ r => r = .bool (decide (d.next = next ∧ d.edits.map (·.seq) = xs)) := by
  have hdl : d.edits.length ≤ 1000000000 := by obtain ⟨_, _, _, _, h⟩ := h; exact h
  obtain ⟨a, cap, rfl, hc, hf⟩ := h.form
  obtain ⟨b, cap', rfl, hc', hf'⟩ := hl.form
  simp only [dvCells]
  refine callsT mix Tryz.func51 comp51 (by simp [Tryz.ntmps51]) ?_; simp only [go_sem, ↓reduceIte, Nat.reduceEqDiff, Nat.reduceAdd, Nat.reduceMul, Nat.reduceLeDiff, Nat.reduceLT, Nat.reduceBNe, reduceCtorEq, vc51, rs51]
  refine ⟨fun hn => ⟨fun hne => ?_, fun he => ?_⟩, fun hn => by rw [decide_eq_false (fun h => hn h.1)]⟩
  · rw [decide_eq_false]
    rintro ⟨_, h2⟩
    have := congrArg List.length h2
    simp at this; omega
  have he' : d.edits.length = xs.length := by omega
  refine vcLoop Nat (fun i => [(7, .val (.int .i64 i)), (2, .val (.slice b xs.length cap')), (3, .loc 0 0)]) (fun _ => [.box [.val (.int .i64 d.id), .val (.int .i64 d.epoch), .val (.int .i64 d.next), .val (.slice a d.edits.length cap)]])
    (fun i _ => i ≤ xs.length ∧ (d.edits.take i).map (·.seq) = xs.take i) (fun i => xs.length - i) 0 ?_ ?_ ?_ ?_
  · (try simp only [go_sem, ↓reduceIte, Nat.reduceEqDiff, Nat.reduceAdd, Nat.reduceMul, Nat.reduceLeDiff, Nat.reduceLT, Nat.reduceBNe, reduceCtorEq]) <;> (repeat' (first | rfl | trivial | constructor | (intro h; exact absurd rfl h)))
  · try simp only [go_sem, ↓reduceIte, Nat.reduceEqDiff, Nat.reduceAdd, Nat.reduceMul, Nat.reduceLeDiff, Nat.reduceLT, Nat.reduceBNe, reduceCtorEq]
  · exact ⟨Nat.zero_le _, rfl⟩
  rintro i env R1 hle1 hE ⟨hi, hp⟩
  (simp only [go_sem] at hE; obtain ⟨e7, e2, e3⟩ := hE; simp only [go_sem, ↓reduceIte, Nat.reduceEqDiff, Nat.reduceAdd, Nat.reduceMul, Nat.reduceLeDiff, Nat.reduceLT, Nat.reduceBNe, reduceCtorEq, e7, e2, e3]; dsimp only at *)
  refine ⟨fun hlt => ?_, fun hge => ?_⟩
  · have hlt' : i < xs.length := by omega
    have hlt2 : i < d.edits.length := by omega
    obtain ⟨ad, ra, rn, rc, had, hR, _⟩ := hf i hlt2
    obtain ⟨bd, hbd, hRb⟩ := hf' i hlt'
    refine ⟨by omega, vat ad had ?_⟩
    try simp only [go_sem, ↓reduceIte, Nat.reduceEqDiff, Nat.reduceAdd, Nat.reduceMul, Nat.reduceLeDiff, Nat.reduceLT, Nat.reduceBNe, reduceCtorEq]
    refine vload _ (hle1 _ _ (hR 3 _ rfl)) ?_
    simp only [go_sem, ↓reduceIte, Nat.reduceEqDiff, Nat.reduceAdd, Nat.reduceMul, Nat.reduceLeDiff, Nat.reduceLT, Nat.reduceBNe, reduceCtorEq, e7, e2, e3]
    refine ⟨by omega, vat bd hbd ?_⟩
    try simp only [go_sem, ↓reduceIte, Nat.reduceEqDiff, Nat.reduceAdd, Nat.reduceMul, Nat.reduceLeDiff, Nat.reduceLT, Nat.reduceBNe, reduceCtorEq]
    refine vload _ (hle1 _ _ hRb) ?_
    simp only [go_sem, ↓reduceIte, Nat.reduceEqDiff, Nat.reduceAdd, Nat.reduceMul, Nat.reduceLeDiff, Nat.reduceLT, Nat.reduceBNe, reduceCtorEq, De.ed, e7, e2, e3]
    refine ⟨fun hne => ?_, fun heq => ?_⟩
    · rw [decide_eq_false]
      rintro ⟨_, h2⟩
      refine hne ?_
      have h3 : (d.edits.map (·.seq))[i]? = xs[i]? := by rw [h2]
      rw [List.getElem?_map, List.getElem?_eq_getElem hlt2, List.getElem?_eq_getElem hlt'] at h3
      simpa using h3
    · refine ⟨_, W.in64 (by omega), i + 1, by omega, by constructor, by omega, ?_⟩
      rw [List.take_succ_eq_append_getElem hlt2, List.take_succ_eq_append_getElem hlt', List.map_append, hp, ← heq]
      rfl
  · obtain rfl : i = xs.length := by omega
    rw [List.take_length, ← he', List.take_length] at hp
    rw [decide_eq_true ⟨hn, hp⟩]
end Go.Proofs.YtojckjngjfgfdaaGreat
namespace Go.Proofs.YtojckjngjfgfdaaGreat
set_option linter.unusedSimpArgs false
set_option linter.unusedVariables false
open Go.Proofs.YtojckjngjfgfdaaGreat.Vc
/-! ### The laws' fixed examples -/
def mkT (dev seq m : Int) : De := ⟨2, 0, dev, seq, ⟨0, false, 0, 0, 0⟩, m, 10, [], ⟨#[]⟩⟩
theorem dsA : dvNew 3 = .ok ⟨3, 0, 1, []⟩ := by kernel_rfl
theorem dsB : dvAdd ⟨3, 0, 1, []⟩ (tD 5) = .ok ⟨3, 0, 2, [mkT 3 64 5]⟩ := by kernel_rfl
theorem dsC : dvAdd ⟨3, 0, 2, [mkT 3 64 5]⟩ (tD 6) = .ok ⟨3, 0, 3, [mkT 3 64 5, mkT 3 128 6]⟩ := by kernel_rfl
theorem dsN : dvNew 16 = .error 1 := by kernel_rfl
theorem dsO : dvNew 4 = .ok ⟨4, 0, 1, []⟩ := by kernel_rfl
theorem dsD : dvSync ⟨4, 0, 1, []⟩ ⟨3, 0, 3, [mkT 3 64 5, mkT 3 128 6]⟩ = .ok ⟨4, 0, 3, [mkT 3 64 5, mkT 3 128 6]⟩ := by kernel_rfl
theorem dsX : dvAdd ⟨4, 0, 3, [mkT 3 64 5, mkT 3 128 6]⟩ (tD 7) = .ok ⟨4, 0, 4, [mkT 3 64 5, mkT 3 128 6, mkT 4 192 7]⟩ := by kernel_rfl
theorem dsR : dvRestore ⟨3, 0, 2, [mkT 3 64 5]⟩ 1 = .ok ⟨3, 1, 2, [mkT 3 64 5]⟩ := by kernel_rfl
theorem dsS : dvAdd ⟨3, 1, 2, [mkT 3 64 5]⟩ (tD 8) = .ok ⟨3, 1, 3, [mkT 3 64 5, mkT 3 129 8]⟩ := by kernel_rfl
theorem dsR0 : dvRestore ⟨3, 0, 2, [mkT 3 64 5]⟩ 0 = .error 9 := by kernel_rfl
theorem dsT : dvSync ⟨3, 1, 2, [mkT 3 64 5]⟩ ⟨4, 0, 3, [mkT 3 64 5, mkT 3 128 6]⟩ = .ok ⟨3, 1, 3, [mkT 3 64 5, mkT 3 128 6]⟩ := by kernel_rfl
theorem dsW : dvAdd ⟨3, 0, 1, []⟩ (tD 9) = .ok ⟨3, 0, 2, [mkT 3 64 9]⟩ := by kernel_rfl
theorem dsE : dvSync ⟨3, 0, 2, [mkT 3 64 9]⟩ ⟨3, 0, 2, [mkT 3 64 5]⟩ = .error 1 := by kernel_rfl
theorem allD_of2 {l o s : List De} (h0 : l.length ≤ 4096) (h : distD [] l = some o) (hp : s.Perm o) (hs : SortedD s) : allD l = .ok s := by
  unfold allD
  rw [if_neg (by omega), h]
  show Except.ok (sortD o) = _
  rw [← sortD_eq (distD_keys h List.Pairwise.nil) hp (hs.imp fun h => lessD_asymm h)]
theorem dsAll : allD [mkT 3 64 5, mkT 3 128 6] = .ok [mkT 3 64 5, mkT 3 128 6] := allD_of2 (o := [mkT 3 64 5, mkT 3 128 6]) (by decide) (by decide) (List.Perm.refl _) (by unfold SortedD; decide)
theorem dsForce : forceD [mkT 3 64 5, mkT 3 128 6] = [mkT 3 128 6] ∧ endE [mkT 3 128 6] = 1099511627777 := by decide
theorem dsRec : recsD [mkT 3 64 5, mkT 3 128 6] = [⟨3, 64, 3, 128⟩] := by decide
theorem dsParts (s : Se) : ∃ ti, mergeP s [] [] [mkT 3 64 5, mkT 3 128 6] = [⟨0, ti, []⟩] ∧ ti.minute = 6 := by
  have h1 : rising (0 :: [mkT 3 128 6].map (·.day)) = [0] := by decide
  have h2 : partsD s [] [mkT 3 128 6] 1099511627777 = [(0, tiOn s [] [mkT 3 128 6] 0)] := by
    unfold partsD
    rw [h1, partsGo_first (by decide)]
    rfl
  have h3 : movesD [] [mkT 3 128 6] 1099511627777 = [] := by decide
  have h4 : sortM [] = [] := by simp [sortM]
  refine ⟨tiOn s [] [mkT 3 128 6] 0, ?_, rfl⟩
  unfold mergeP
  rw [dsForce.1, dsForce.2, h2, h3, h4]
  rfl
theorem dsL : dvLacks ⟨3, 0, 2, [mkT 3 64 5]⟩ ⟨4, 0, 4, [mkT 3 64 5, mkT 3 128 6, mkT 4 192 7]⟩ = [mkT 3 128 6, mkT 4 192 7] := by kernel_rfl
set_option maxRecDepth 100000 in
set_option maxHeartbeats 4000000 in
theorem dSanity (R : RO) : CallsR Tryz.prog 13 [] R fun _ v => v = .bool true := by
  refine callsT mix Tryz.func13 comp13 (by simp [Tryz.ntmps13]) ?_; simp only [go_sem, ↓reduceIte, Nat.reduceEqDiff, Nat.reduceAdd, Nat.reduceMul, Nat.reduceLeDiff, Nat.reduceLT, Nat.reduceBNe, reduceCtorEq, vc13, rs13]
  refine vcall (dNew 3 R) ?_
  intro R1 r h1 hr
  rw [dsA] at hr
  obtain ⟨va, rfl, wa⟩ := hr
  obtain ⟨aaa, cca, rfl, _, ffa⟩ := wa.form
  simp only [dvCells]
  try simp only [go_sem, ↓reduceIte, Nat.reduceEqDiff, Nat.reduceAdd, Nat.reduceMul, Nat.reduceLeDiff, Nat.reduceLT, Nat.reduceBNe, reduceCtorEq]
  refine vcall (dTimed 5 R1) ?_
  rintro R2 r h2 rfl
  try simp only [go_sem, ↓reduceIte, Nat.reduceEqDiff, Nat.reduceAdd, Nat.reduceMul, Nat.reduceLeDiff, Nat.reduceLT, Nat.reduceBNe, reduceCtorEq]
  refine vcall (dAdd ⟨3, 0, 1, []⟩ _ (tD 5) none 0 0 R2 (wa.mono h2) (RuleV.nil _)) ?_
  intro R3 r h3 hr
  rw [dsB] at hr
  obtain ⟨vb, rfl, wb⟩ := hr
  obtain ⟨aab, ccb, rfl, _, ffb⟩ := wb.form
  simp only [dvCells]
  try simp only [go_sem, ↓reduceIte, Nat.reduceEqDiff, Nat.reduceAdd, Nat.reduceMul, Nat.reduceLeDiff, Nat.reduceLT, Nat.reduceBNe, reduceCtorEq]
  refine vcall (dTimed 6 R3) ?_
  rintro R4 r h4 rfl
  try simp only [go_sem, ↓reduceIte, Nat.reduceEqDiff, Nat.reduceAdd, Nat.reduceMul, Nat.reduceLeDiff, Nat.reduceLT, Nat.reduceBNe, reduceCtorEq]
  refine vcall (dAdd ⟨3, 0, 2, [mkT 3 64 5]⟩ _ (tD 6) none 0 0 R4 (wb.mono h4) (RuleV.nil _)) ?_
  intro R5 r h5 hr
  rw [dsC] at hr
  obtain ⟨vc, rfl, wc⟩ := hr
  obtain ⟨aac, ccc, rfl, _, ffc⟩ := wc.form
  simp only [dvCells]
  try simp only [go_sem, ↓reduceIte, Nat.reduceEqDiff, Nat.reduceAdd, Nat.reduceMul, Nat.reduceLeDiff, Nat.reduceLT, Nat.reduceBNe, reduceCtorEq]
  refine vcall (dNew 16 R5) ?_
  intro R6 r h6 hr
  rw [dsN] at hr
  subst hr
  try simp only [go_sem, ↓reduceIte, Nat.reduceEqDiff, Nat.reduceAdd, Nat.reduceMul, Nat.reduceLeDiff, Nat.reduceLT, Nat.reduceBNe, reduceCtorEq]
  refine vcall (dNew 4 R6) ?_
  intro R7 r h7 hr
  rw [dsO] at hr
  obtain ⟨vo, rfl, wo⟩ := hr
  obtain ⟨aao, cco, rfl, _, ffo⟩ := wo.form
  simp only [dvCells]
  try simp only [go_sem, ↓reduceIte, Nat.reduceEqDiff, Nat.reduceAdd, Nat.reduceMul, Nat.reduceLeDiff, Nat.reduceLT, Nat.reduceBNe, reduceCtorEq]
  refine vcall (dSync ⟨4, 0, 1, []⟩ ⟨3, 0, 3, [mkT 3 64 5, mkT 3 128 6]⟩ _ _ R7 wo (wc.mono (RO.le_trans h6 h7))) ?_
  intro R8 r h8 hr
  rw [dsD] at hr
  obtain ⟨vd, rfl, wd⟩ := hr
  obtain ⟨aad, ccd, rfl, _, ffd⟩ := wd.form
  simp only [dvCells]
  try simp only [go_sem, ↓reduceIte, Nat.reduceEqDiff, Nat.reduceAdd, Nat.reduceMul, Nat.reduceLeDiff, Nat.reduceLT, Nat.reduceBNe, reduceCtorEq]
  refine vcall (dTimed 7 R8) ?_
  rintro R9 r h9 rfl
  try simp only [go_sem, ↓reduceIte, Nat.reduceEqDiff, Nat.reduceAdd, Nat.reduceMul, Nat.reduceLeDiff, Nat.reduceLT, Nat.reduceBNe, reduceCtorEq]
  refine vcall (dAdd ⟨4, 0, 3, [mkT 3 64 5, mkT 3 128 6]⟩ _ (tD 7) none 0 0 R9 (wd.mono h9) (RuleV.nil _)) ?_
  intro R10 r h10 hr
  rw [dsX] at hr
  obtain ⟨vx, rfl, wx⟩ := hr
  obtain ⟨aax, ccx, rfl, _, ffx⟩ := wx.form
  simp only [dvCells]
  try simp only [go_sem, ↓reduceIte, Nat.reduceEqDiff, Nat.reduceAdd, Nat.reduceMul, Nat.reduceLeDiff, Nat.reduceLT, Nat.reduceBNe, reduceCtorEq]
  refine vcall (dSeqs ⟨3, 0, 1, []⟩ _ 1 _ [] R10 (wa.mono (RO.le_trans (RO.le_trans (RO.le_trans (RO.le_trans (RO.le_trans (RO.le_trans (RO.le_trans (RO.le_trans h2 h3) h4) h5) h6) h7) h8) h9) h10)) (Ints.nil _)) ?_
  rintro R11 r h11 rfl
  rw [decide_eq_true (by exact ⟨rfl, rfl⟩)]
  try simp only [go_sem, ↓reduceIte, Nat.reduceEqDiff, Nat.reduceAdd, Nat.reduceMul, Nat.reduceLeDiff, Nat.reduceLT, Nat.reduceBNe, reduceCtorEq]
  refine vfreeze ?_
  try simp only [go_sem, ↓reduceIte, Nat.reduceEqDiff, Nat.reduceAdd, Nat.reduceMul, Nat.reduceLeDiff, Nat.reduceLT, Nat.reduceBNe, reduceCtorEq]
  intro b12 k12 R12 h12 hrow12 hcap12 hfr12
  refine vcall (dSeqs ⟨3, 0, 2, [mkT 3 64 5]⟩ _ 2 _ [64] R12 (wb.mono (RO.le_trans (RO.le_trans (RO.le_trans (RO.le_trans (RO.le_trans (RO.le_trans (RO.le_trans (RO.le_trans h4 h5) h6) h7) h8) h9) h10) h11) h12)) (RowIn.ints (xs := [64]) hrow12 (by simpa using hcap12))) ?_
  rintro R13 r h13 rfl
  rw [decide_eq_true (by exact ⟨rfl, rfl⟩)]
  try simp only [go_sem, ↓reduceIte, Nat.reduceEqDiff, Nat.reduceAdd, Nat.reduceMul, Nat.reduceLeDiff, Nat.reduceLT, Nat.reduceBNe, reduceCtorEq]
  refine vfreeze ?_
  try simp only [go_sem, ↓reduceIte, Nat.reduceEqDiff, Nat.reduceAdd, Nat.reduceMul, Nat.reduceLeDiff, Nat.reduceLT, Nat.reduceBNe, reduceCtorEq]
  intro b14 k14 R14 h14 hrow14 hcap14 hfr14
  refine vcall (dSeqs ⟨3, 0, 3, [mkT 3 64 5, mkT 3 128 6]⟩ _ 3 _ [64, 128] R14 (wc.mono (RO.le_trans (RO.le_trans (RO.le_trans (RO.le_trans (RO.le_trans (RO.le_trans (RO.le_trans (RO.le_trans h6 h7) h8) h9) h10) h11) h12) h13) h14)) (RowIn.ints (xs := [64, 128]) hrow14 (by simpa using hcap14))) ?_
  rintro R15 r h15 rfl
  rw [decide_eq_true (by exact ⟨rfl, rfl⟩)]
  try simp only [go_sem, ↓reduceIte, Nat.reduceEqDiff, Nat.reduceAdd, Nat.reduceMul, Nat.reduceLeDiff, Nat.reduceLT, Nat.reduceBNe, reduceCtorEq]
  obtain ⟨ad1520, ra15, rn15, rc15, had1520, hR1520, _⟩ := ffb 0 (by decide)
  try simp only [go_sem, ↓reduceIte, Nat.reduceEqDiff, Nat.reduceAdd, Nat.reduceMul, Nat.reduceLeDiff, Nat.reduceLT, Nat.reduceBNe, reduceCtorEq, Int.reduceLE, Int.reduceLT, Int.reduceToNat, Int.cast_ofNat_Int, Int.reduceEq, Int.reduceNe]
  first | refine vat ad1520 had1520 ?_ | refine ⟨by decide, vat ad1520 had1520 ?_⟩ | refine ⟨by decide, by decide, vat ad1520 had1520 ?_⟩
  try simp only [go_sem, ↓reduceIte, Nat.reduceEqDiff, Nat.reduceAdd, Nat.reduceMul, Nat.reduceLeDiff, Nat.reduceLT, Nat.reduceBNe, reduceCtorEq, Int.reduceLE, Int.reduceLT, Int.reduceToNat, Int.cast_ofNat_Int, Int.reduceEq, Int.reduceNe]
  refine vload (.int .i64 3) ((RO.le_trans (RO.le_trans (RO.le_trans (RO.le_trans (RO.le_trans (RO.le_trans (RO.le_trans (RO.le_trans (RO.le_trans (RO.le_trans (RO.le_trans h4 h5) h6) h7) h8) h9) h10) h11) h12) h13) h14) h15) _ _ (hR1520 2 _ rfl)) ?_
  try simp only [go_sem, ↓reduceIte, Nat.reduceEqDiff, Nat.reduceAdd, Nat.reduceMul, Nat.reduceLeDiff, Nat.reduceLT, Nat.reduceBNe, reduceCtorEq, Int.reduceLE, Int.reduceLT, Int.reduceToNat, Int.cast_ofNat_Int, Int.reduceEq, Int.reduceNe]
  refine vfreeze ?_
  try simp only [go_sem, ↓reduceIte, Nat.reduceEqDiff, Nat.reduceAdd, Nat.reduceMul, Nat.reduceLeDiff, Nat.reduceLT, Nat.reduceBNe, reduceCtorEq]
  intro b16 k16 R16 h16 hrow16 hcap16 hfr16
  refine vcall (dSeqs ⟨4, 0, 3, [mkT 3 64 5, mkT 3 128 6]⟩ _ 3 _ [64, 128] R16 (wd.mono (RO.le_trans (RO.le_trans (RO.le_trans (RO.le_trans (RO.le_trans (RO.le_trans (RO.le_trans h9 h10) h11) h12) h13) h14) h15) h16)) (RowIn.ints (xs := [64, 128]) hrow16 (by simpa using hcap16))) ?_
  rintro R17 r h17 rfl
  rw [decide_eq_true (by exact ⟨rfl, rfl⟩)]
  try simp only [go_sem, ↓reduceIte, Nat.reduceEqDiff, Nat.reduceAdd, Nat.reduceMul, Nat.reduceLeDiff, Nat.reduceLT, Nat.reduceBNe, reduceCtorEq]
  refine vfreeze ?_
  try simp only [go_sem, ↓reduceIte, Nat.reduceEqDiff, Nat.reduceAdd, Nat.reduceMul, Nat.reduceLeDiff, Nat.reduceLT, Nat.reduceBNe, reduceCtorEq]
  intro b18 k18 R18 h18 hrow18 hcap18 hfr18
  refine vcall (dSeqs ⟨4, 0, 4, [mkT 3 64 5, mkT 3 128 6, mkT 4 192 7]⟩ _ 4 _ [64, 128, 192] R18 (wx.mono (RO.le_trans (RO.le_trans (RO.le_trans (RO.le_trans (RO.le_trans (RO.le_trans (RO.le_trans h11 h12) h13) h14) h15) h16) h17) h18)) (RowIn.ints (xs := [64, 128, 192]) hrow18 (by simpa using hcap18))) ?_
  rintro R19 r h19 rfl
  rw [decide_eq_true (by exact ⟨rfl, rfl⟩)]
  try simp only [go_sem, ↓reduceIte, Nat.reduceEqDiff, Nat.reduceAdd, Nat.reduceMul, Nat.reduceLeDiff, Nat.reduceLT, Nat.reduceBNe, reduceCtorEq]
  refine vcall (dRestore ⟨3, 0, 2, [mkT 3 64 5]⟩ _ 1 R19 (wb.mono (RO.le_trans (RO.le_trans (RO.le_trans (RO.le_trans (RO.le_trans (RO.le_trans (RO.le_trans (RO.le_trans (RO.le_trans (RO.le_trans (RO.le_trans (RO.le_trans (RO.le_trans (RO.le_trans (RO.le_trans h4 h5) h6) h7) h8) h9) h10) h11) h12) h13) h14) h15) h16) h17) h18) h19))) ?_
  intro R20 r h20 hr
  rw [dsR] at hr
  obtain ⟨vr, rfl, wr⟩ := hr
  obtain ⟨aar, ccr, rfl, _, ffr⟩ := wr.form
  simp only [dvCells]
  try simp only [go_sem, ↓reduceIte, Nat.reduceEqDiff, Nat.reduceAdd, Nat.reduceMul, Nat.reduceLeDiff, Nat.reduceLT, Nat.reduceBNe, reduceCtorEq]
  refine vcall (dTimed 8 R20) ?_
  rintro R21 r h21 rfl
  try simp only [go_sem, ↓reduceIte, Nat.reduceEqDiff, Nat.reduceAdd, Nat.reduceMul, Nat.reduceLeDiff, Nat.reduceLT, Nat.reduceBNe, reduceCtorEq]
  refine vcall (dAdd ⟨3, 1, 2, [mkT 3 64 5]⟩ _ (tD 8) none 0 0 R21 (wr.mono h21) (RuleV.nil _)) ?_
  intro R22 r h22 hr
  rw [dsS] at hr
  obtain ⟨vs, rfl, ws⟩ := hr
  obtain ⟨aas, ccs, rfl, _, ffs⟩ := ws.form
  simp only [dvCells]
  try simp only [go_sem, ↓reduceIte, Nat.reduceEqDiff, Nat.reduceAdd, Nat.reduceMul, Nat.reduceLeDiff, Nat.reduceLT, Nat.reduceBNe, reduceCtorEq]
  refine vcall (dRestore ⟨3, 0, 2, [mkT 3 64 5]⟩ _ 0 R22 (wb.mono (RO.le_trans (RO.le_trans (RO.le_trans (RO.le_trans (RO.le_trans (RO.le_trans (RO.le_trans (RO.le_trans (RO.le_trans (RO.le_trans (RO.le_trans (RO.le_trans (RO.le_trans (RO.le_trans (RO.le_trans (RO.le_trans (RO.le_trans (RO.le_trans h4 h5) h6) h7) h8) h9) h10) h11) h12) h13) h14) h15) h16) h17) h18) h19) h20) h21) h22))) ?_
  intro R23 r h23 hr
  rw [dsR0] at hr
  subst hr
  try simp only [go_sem, ↓reduceIte, Nat.reduceEqDiff, Nat.reduceAdd, Nat.reduceMul, Nat.reduceLeDiff, Nat.reduceLT, Nat.reduceBNe, reduceCtorEq]
  refine vcall (dSync ⟨3, 1, 2, [mkT 3 64 5]⟩ ⟨4, 0, 3, [mkT 3 64 5, mkT 3 128 6]⟩ _ _ R23 (wr.mono (RO.le_trans (RO.le_trans h21 h22) h23)) (wd.mono (RO.le_trans (RO.le_trans (RO.le_trans (RO.le_trans (RO.le_trans (RO.le_trans (RO.le_trans (RO.le_trans (RO.le_trans (RO.le_trans (RO.le_trans (RO.le_trans (RO.le_trans (RO.le_trans h9 h10) h11) h12) h13) h14) h15) h16) h17) h18) h19) h20) h21) h22) h23))) ?_
  intro R24 r h24 hr
  rw [dsT] at hr
  obtain ⟨vt, rfl, wt⟩ := hr
  obtain ⟨aat, cct, rfl, _, fft⟩ := wt.form
  simp only [dvCells]
  try simp only [go_sem, ↓reduceIte, Nat.reduceEqDiff, Nat.reduceAdd, Nat.reduceMul, Nat.reduceLeDiff, Nat.reduceLT, Nat.reduceBNe, reduceCtorEq]
  refine vcall (dTimed 9 R24) ?_
  rintro R25 r h25 rfl
  try simp only [go_sem, ↓reduceIte, Nat.reduceEqDiff, Nat.reduceAdd, Nat.reduceMul, Nat.reduceLeDiff, Nat.reduceLT, Nat.reduceBNe, reduceCtorEq]
  refine vcall (dAdd ⟨3, 0, 1, []⟩ _ (tD 9) none 0 0 R25 (wa.mono (RO.le_trans (RO.le_trans (RO.le_trans (RO.le_trans (RO.le_trans (RO.le_trans (RO.le_trans (RO.le_trans (RO.le_trans (RO.le_trans (RO.le_trans (RO.le_trans (RO.le_trans (RO.le_trans (RO.le_trans (RO.le_trans (RO.le_trans (RO.le_trans (RO.le_trans (RO.le_trans (RO.le_trans (RO.le_trans (RO.le_trans h2 h3) h4) h5) h6) h7) h8) h9) h10) h11) h12) h13) h14) h15) h16) h17) h18) h19) h20) h21) h22) h23) h24) h25)) (RuleV.nil _)) ?_
  intro R26 r h26 hr
  rw [dsW] at hr
  obtain ⟨vw, rfl, ww⟩ := hr
  obtain ⟨aaw, ccw, rfl, _, ffw⟩ := ww.form
  simp only [dvCells]
  try simp only [go_sem, ↓reduceIte, Nat.reduceEqDiff, Nat.reduceAdd, Nat.reduceMul, Nat.reduceLeDiff, Nat.reduceLT, Nat.reduceBNe, reduceCtorEq]
  refine vcall (dSync ⟨3, 0, 2, [mkT 3 64 9]⟩ ⟨3, 0, 2, [mkT 3 64 5]⟩ _ _ R26 ww (wb.mono (RO.le_trans (RO.le_trans (RO.le_trans (RO.le_trans (RO.le_trans (RO.le_trans (RO.le_trans (RO.le_trans (RO.le_trans (RO.le_trans (RO.le_trans (RO.le_trans (RO.le_trans (RO.le_trans (RO.le_trans (RO.le_trans (RO.le_trans (RO.le_trans (RO.le_trans (RO.le_trans (RO.le_trans (RO.le_trans h4 h5) h6) h7) h8) h9) h10) h11) h12) h13) h14) h15) h16) h17) h18) h19) h20) h21) h22) h23) h24) h25) h26))) ?_
  intro R27 r h27 hr
  rw [dsE] at hr
  subst hr
  try simp only [go_sem, ↓reduceIte, Nat.reduceEqDiff, Nat.reduceAdd, Nat.reduceMul, Nat.reduceLeDiff, Nat.reduceLT, Nat.reduceBNe, reduceCtorEq]
  refine vcall (dLacks ⟨3, 0, 2, [mkT 3 64 5]⟩ ⟨4, 0, 4, [mkT 3 64 5, mkT 3 128 6, mkT 4 192 7]⟩ _ _ R27 (wb.mono (RO.le_trans (RO.le_trans (RO.le_trans (RO.le_trans (RO.le_trans (RO.le_trans (RO.le_trans (RO.le_trans (RO.le_trans (RO.le_trans (RO.le_trans (RO.le_trans (RO.le_trans (RO.le_trans (RO.le_trans (RO.le_trans (RO.le_trans (RO.le_trans (RO.le_trans (RO.le_trans (RO.le_trans (RO.le_trans (RO.le_trans h4 h5) h6) h7) h8) h9) h10) h11) h12) h13) h14) h15) h16) h17) h18) h19) h20) h21) h22) h23) h24) h25) h26) h27)) (wx.mono (RO.le_trans (RO.le_trans (RO.le_trans (RO.le_trans (RO.le_trans (RO.le_trans (RO.le_trans (RO.le_trans (RO.le_trans (RO.le_trans (RO.le_trans (RO.le_trans (RO.le_trans (RO.le_trans (RO.le_trans (RO.le_trans h11 h12) h13) h14) h15) h16) h17) h18) h19) h20) h21) h22) h23) h24) h25) h26) h27))) ?_
  intro R28 r h28 wl
  rw [dsL] at wl
  obtain ⟨aal, ccl, rfl, _, ffl⟩ := wl.form
  try simp only [go_sem, ↓reduceIte, Nat.reduceEqDiff, Nat.reduceAdd, Nat.reduceMul, Nat.reduceLeDiff, Nat.reduceLT, Nat.reduceBNe, reduceCtorEq]
  refine vcall (dSeries ⟨.slice none 0 0, 0, 1, ⟨#[]⟩, 0, 0, .slice none 0 0⟩ [] [] ⟨3, 0, 3, [mkT 3 64 5, mkT 3 128 6]⟩ _ R28 (RuleV.nil _) (EncV.nil _ _ _) (wc.mono (RO.le_trans (RO.le_trans (RO.le_trans (RO.le_trans (RO.le_trans (RO.le_trans (RO.le_trans (RO.le_trans (RO.le_trans (RO.le_trans (RO.le_trans (RO.le_trans (RO.le_trans (RO.le_trans (RO.le_trans (RO.le_trans (RO.le_trans (RO.le_trans (RO.le_trans (RO.le_trans (RO.le_trans (RO.le_trans h6 h7) h8) h9) h10) h11) h12) h13) h14) h15) h16) h17) h18) h19) h20) h21) h22) h23) h24) h25) h26) h27) h28)) (by decide)) ?_
  intro R29 r h29 hr
  unfold SerV at hr
  rw [if_pos (by kernel_rfl)] at hr
  unfold MergeV at hr
  rw [dsAll] at hr
  dsimp only at hr
  rw [if_neg (by decide)] at hr
  obtain ⟨p, q, rfl, hp, hq⟩ := hr
  obtain ⟨ti, hti, htm⟩ := dsParts ⟨.slice none 0 0, 0, 1, ⟨#[]⟩, 0, 0, .slice none 0 0⟩
  rw [hti] at hp
  rw [dsRec] at hq
  obtain ⟨aaq, ccq, rfl, _, ffq⟩ := hq.form
  obtain ⟨cs, hpS, hpl, hpf, _⟩ := hp
  obtain ⟨aap, ccp, rfl, _, ffp⟩ := SlK.form hpS
  try simp only [go_sem, ↓reduceIte, Nat.reduceEqDiff, Nat.reduceAdd, Nat.reduceMul, Nat.reduceLeDiff, Nat.reduceLT, Nat.reduceBNe, reduceCtorEq]
  refine vfreeze ?_
  try simp only [go_sem, ↓reduceIte, Nat.reduceEqDiff, Nat.reduceAdd, Nat.reduceMul, Nat.reduceLeDiff, Nat.reduceLT, Nat.reduceBNe, reduceCtorEq]
  intro b30 k30 R30 h30 hrow30 hcap30 hfr30
  refine vcall (dSeqs ⟨3, 1, 2, [mkT 3 64 5]⟩ _ 2 _ [64] R30 (wr.mono (RO.le_trans (RO.le_trans (RO.le_trans (RO.le_trans (RO.le_trans (RO.le_trans (RO.le_trans (RO.le_trans (RO.le_trans h21 h22) h23) h24) h25) h26) h27) h28) h29) h30)) (RowIn.ints (xs := [64]) hrow30 (by simpa using hcap30))) ?_
  rintro R31 r h31 rfl
  rw [decide_eq_true (by exact ⟨rfl, rfl⟩)]
  try simp only [go_sem, ↓reduceIte, Nat.reduceEqDiff, Nat.reduceAdd, Nat.reduceMul, Nat.reduceLeDiff, Nat.reduceLT, Nat.reduceBNe, reduceCtorEq]
  refine vfreeze ?_
  try simp only [go_sem, ↓reduceIte, Nat.reduceEqDiff, Nat.reduceAdd, Nat.reduceMul, Nat.reduceLeDiff, Nat.reduceLT, Nat.reduceBNe, reduceCtorEq]
  intro b32 k32 R32 h32 hrow32 hcap32 hfr32
  refine vcall (dSeqs ⟨3, 1, 3, [mkT 3 64 5, mkT 3 129 8]⟩ _ 3 _ [64, 129] R32 (ws.mono (RO.le_trans (RO.le_trans (RO.le_trans (RO.le_trans (RO.le_trans (RO.le_trans (RO.le_trans (RO.le_trans (RO.le_trans h23 h24) h25) h26) h27) h28) h29) h30) h31) h32)) (RowIn.ints (xs := [64, 129]) hrow32 (by simpa using hcap32))) ?_
  rintro R33 r h33 rfl
  rw [decide_eq_true (by exact ⟨rfl, rfl⟩)]
  try simp only [go_sem, ↓reduceIte, Nat.reduceEqDiff, Nat.reduceAdd, Nat.reduceMul, Nat.reduceLeDiff, Nat.reduceLT, Nat.reduceBNe, reduceCtorEq]
  refine vfreeze ?_
  try simp only [go_sem, ↓reduceIte, Nat.reduceEqDiff, Nat.reduceAdd, Nat.reduceMul, Nat.reduceLeDiff, Nat.reduceLT, Nat.reduceBNe, reduceCtorEq]
  intro b34 k34 R34 h34 hrow34 hcap34 hfr34
  refine vcall (dSeqs ⟨3, 1, 3, [mkT 3 64 5, mkT 3 128 6]⟩ _ 3 _ [64, 128] R34 (wt.mono (RO.le_trans (RO.le_trans (RO.le_trans (RO.le_trans (RO.le_trans (RO.le_trans (RO.le_trans (RO.le_trans (RO.le_trans h25 h26) h27) h28) h29) h30) h31) h32) h33) h34)) (RowIn.ints (xs := [64, 128]) hrow34 (by simpa using hcap34))) ?_
  rintro R35 r h35 rfl
  rw [decide_eq_true (by exact ⟨rfl, rfl⟩)]
  try simp only [go_sem, ↓reduceIte, Nat.reduceEqDiff, Nat.reduceAdd, Nat.reduceMul, Nat.reduceLeDiff, Nat.reduceLT, Nat.reduceBNe, reduceCtorEq]
  have hcl : cs.length = 1 := hpl
  rw [hcl]
  try simp only [go_sem, ↓reduceIte, Nat.reduceEqDiff, Nat.reduceAdd, Nat.reduceMul, Nat.reduceLeDiff, Nat.reduceLT, Nat.reduceBNe, reduceCtorEq, Int.reduceLE, Int.reduceLT, Int.reduceToNat, Int.cast_ofNat_Int, Int.reduceEq, Int.reduceNe]
  obtain ⟨ad3530, ra35, rn35, rc35, had3530, hR3530, _⟩ := ffl 0 (by decide)
  try simp only [go_sem, ↓reduceIte, Nat.reduceEqDiff, Nat.reduceAdd, Nat.reduceMul, Nat.reduceLeDiff, Nat.reduceLT, Nat.reduceBNe, reduceCtorEq, Int.reduceLE, Int.reduceLT, Int.reduceToNat, Int.cast_ofNat_Int, Int.reduceEq, Int.reduceNe]
  first | refine vat ad3530 had3530 ?_ | refine ⟨by decide, vat ad3530 had3530 ?_⟩ | refine ⟨by decide, by decide, vat ad3530 had3530 ?_⟩
  try simp only [go_sem, ↓reduceIte, Nat.reduceEqDiff, Nat.reduceAdd, Nat.reduceMul, Nat.reduceLeDiff, Nat.reduceLT, Nat.reduceBNe, reduceCtorEq, Int.reduceLE, Int.reduceLT, Int.reduceToNat, Int.cast_ofNat_Int, Int.reduceEq, Int.reduceNe]
  refine vload (.int .i64 128) ((RO.le_trans (RO.le_trans (RO.le_trans (RO.le_trans (RO.le_trans (RO.le_trans h29 h30) h31) h32) h33) h34) h35) _ _ (hR3530 3 _ rfl)) ?_
  try simp only [go_sem, ↓reduceIte, Nat.reduceEqDiff, Nat.reduceAdd, Nat.reduceMul, Nat.reduceLeDiff, Nat.reduceLT, Nat.reduceBNe, reduceCtorEq, Int.reduceLE, Int.reduceLT, Int.reduceToNat, Int.cast_ofNat_Int, Int.reduceEq, Int.reduceNe]
  obtain ⟨ad3521, ra35, rn35, rc35, had3521, hR3521, _⟩ := ffl 1 (by decide)
  try simp only [go_sem, ↓reduceIte, Nat.reduceEqDiff, Nat.reduceAdd, Nat.reduceMul, Nat.reduceLeDiff, Nat.reduceLT, Nat.reduceBNe, reduceCtorEq, Int.reduceLE, Int.reduceLT, Int.reduceToNat, Int.cast_ofNat_Int, Int.reduceEq, Int.reduceNe]
  first | refine vat ad3521 had3521 ?_ | refine ⟨by decide, vat ad3521 had3521 ?_⟩ | refine ⟨by decide, by decide, vat ad3521 had3521 ?_⟩
  try simp only [go_sem, ↓reduceIte, Nat.reduceEqDiff, Nat.reduceAdd, Nat.reduceMul, Nat.reduceLeDiff, Nat.reduceLT, Nat.reduceBNe, reduceCtorEq, Int.reduceLE, Int.reduceLT, Int.reduceToNat, Int.cast_ofNat_Int, Int.reduceEq, Int.reduceNe]
  refine vload (.int .i64 4) ((RO.le_trans (RO.le_trans (RO.le_trans (RO.le_trans (RO.le_trans (RO.le_trans h29 h30) h31) h32) h33) h34) h35) _ _ (hR3521 2 _ rfl)) ?_
  try simp only [go_sem, ↓reduceIte, Nat.reduceEqDiff, Nat.reduceAdd, Nat.reduceMul, Nat.reduceLeDiff, Nat.reduceLT, Nat.reduceBNe, reduceCtorEq, Int.reduceLE, Int.reduceLT, Int.reduceToNat, Int.cast_ofNat_Int, Int.reduceEq, Int.reduceNe]
  obtain ⟨_, adp, hadp, hRp⟩ := ffp 0 (by omega)
  obtain ⟨rvp, mvp, hcp, _, _⟩ := hpf 0 _ _ (List.getElem?_eq_getElem (by omega)) rfl
  rw [hcp] at hRp
  try simp only [go_sem, ↓reduceIte, Nat.reduceEqDiff, Nat.reduceAdd, Nat.reduceMul, Nat.reduceLeDiff, Nat.reduceLT, Nat.reduceBNe, reduceCtorEq, Int.reduceLE, Int.reduceLT, Int.reduceToNat, Int.cast_ofNat_Int, Int.reduceEq, Int.reduceNe]
  first | refine vat adp hadp ?_ | refine ⟨by decide, vat adp hadp ?_⟩
  try simp only [go_sem, ↓reduceIte, Nat.reduceEqDiff, Nat.reduceAdd, Nat.reduceMul, Nat.reduceLeDiff, Nat.reduceLT, Nat.reduceBNe, reduceCtorEq, Int.reduceLE, Int.reduceLT, Int.reduceToNat, Int.cast_ofNat_Int, Int.reduceEq, Int.reduceNe]
  refine vload (.int .i64 6) ((RO.le_trans (RO.le_trans (RO.le_trans (RO.le_trans (RO.le_trans h30 h31) h32) h33) h34) h35) _ _ (hRp 2 _ (by rw [← htm]; rfl))) ?_
  try simp only [go_sem, ↓reduceIte, Nat.reduceEqDiff, Nat.reduceAdd, Nat.reduceMul, Nat.reduceLeDiff, Nat.reduceLT, Nat.reduceBNe, reduceCtorEq, Int.reduceLE, Int.reduceLT, Int.reduceToNat, Int.cast_ofNat_Int, Int.reduceEq, Int.reduceNe]
  obtain ⟨adq, hadq, hRq⟩ := ffq 0 (by decide)
  first | refine vat adq hadq ?_ | refine ⟨by decide, vat adq hadq ?_⟩
  try simp only [go_sem, ↓reduceIte, Nat.reduceEqDiff, Nat.reduceAdd, Nat.reduceMul, Nat.reduceLeDiff, Nat.reduceLT, Nat.reduceBNe, reduceCtorEq, Int.reduceLE, Int.reduceLT, Int.reduceToNat, Int.cast_ofNat_Int, Int.reduceEq, Int.reduceNe]
  refine vloadn (Ov.cells ⟨3, 64, 3, 128⟩) rfl (fun j u hj => (RO.le_trans (RO.le_trans (RO.le_trans (RO.le_trans (RO.le_trans h30 h31) h32) h33) h34) h35) _ _ (hRq j u hj)) ?_
  simp only [Ov.cells]
  try simp only [go_sem, ↓reduceIte, Nat.reduceEqDiff, Nat.reduceAdd, Nat.reduceMul, Nat.reduceLeDiff, Nat.reduceLT, Nat.reduceBNe, reduceCtorEq, Int.reduceLE, Int.reduceLT, Int.reduceToNat, Int.cast_ofNat_Int, Int.reduceEq, Int.reduceNe]
end Go.Proofs.YtojckjngjfgfdaaGreat
