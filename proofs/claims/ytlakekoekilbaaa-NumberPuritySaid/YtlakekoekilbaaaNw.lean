/- Plain lemmas of our own, no statement of the seat: the law Purity. -/
import Derived.Test.YtlakekoekilbaaaSn
namespace Go.Proofs.Ytlakekoekilbaaa
set_option linter.unusedSimpArgs false
set_option linter.unusedVariables false
open Go.Proofs.Ytlakekoekilbaaa.Vc
theorem add_off (a : Addr) (n : Nat) : (a.add n).off = a.off + n := by unfold Addr.add; split <;> simp_all
theorem lPurityN (xs : List Int) (v : Value) (by' : Int) (R : RO) (h : Ints R v xs) : CallsR Try.prog 12 [v, .int .i64 by'] R fun _ r => r = .bool true := by
  have hl40 : (xs.take 40).length ≤ 40 := List.length_take_le _ _
  refine callsT mix Try.func12 comp12 (by simp [Try.ntmps12]) ?_; simp only [go_sem, ↓reduceIte, Nat.reduceEqDiff, Nat.reduceAdd, Nat.reduceMul, Nat.reduceLeDiff, Nat.reduceLT, Nat.reduceBNe, reduceCtorEq, vc12, rs12]
  refine vcall (nSanity R) ?_
  rintro R1 r hle1 rfl
  try simp only [go_sem, ↓reduceIte, Nat.reduceEqDiff, Nat.reduceAdd, Nat.reduceMul, Nat.reduceLeDiff, Nat.reduceLT, Nat.reduceBNe, reduceCtorEq]
  refine vcall (nFew xs v R1 (h.mono hle1)) ?_
  intro R2 u hle2 hu
  obtain ⟨zs, hzs⟩ : ∃ zs, zs = xs.take 40 := ⟨_, rfl⟩
  rw [← hzs] at hu hl40
  obtain ⟨a, cap, rfl, hc, hf⟩ := hu.form
  try simp only [go_sem, ↓reduceIte, Nat.reduceEqDiff, Nat.reduceAdd, Nat.reduceMul, Nat.reduceLeDiff, Nat.reduceLT, Nat.reduceBNe, reduceCtorEq]
  refine vsrc (zs.map (.int .i64)) (by simp) (fun u hu => by obtain ⟨_, _, rfl⟩ := List.mem_map.1 hu; rfl) (fun hne => ?_) ?_
  · cases zs with
    | nil => simp at hne
    | cons z r =>
      obtain ⟨ad, e, _⟩ := hf 0 (by simp)
      refine ⟨ad, e, fun i u hi => ?_⟩
      rw [List.getElem?_map] at hi
      obtain ⟨x, hx, rfl⟩ := Option.map_eq_some_iff.1 hi
      obtain ⟨hlt, rfl⟩ := List.getElem?_eq_some_iff.1 hx
      obtain ⟨ad', e', hR⟩ := hf i hlt
      rw [e] at e'
      simp only [Option.some.injEq] at e'
      subst e'
      exact hR
  try simp only [go_sem, ↓reduceIte, Nat.reduceEqDiff, Nat.reduceAdd, Nat.reduceMul, Nat.reduceLeDiff, Nat.reduceLT, Nat.reduceBNe, reduceCtorEq]
  refine vappO [] rfl rfl (by omega) ?_
  try simp only [go_sem, ↓reduceIte, Nat.reduceEqDiff, Nat.reduceAdd, Nat.reduceMul, Nat.reduceLeDiff, Nat.reduceLT, Nat.reduceBNe, reduceCtorEq]
  have hrow : ∀ {β κ : Nat → Nat} {R' : RO}, lendB β κ R' 1 (.row 3 1 (zs.map (.int .i64))) → Ints R' (.slice (some ⟨β 1, 0, none⟩) zs.length (κ 1)) zs := fun h => RowIn.ints h.1 (by simpa using h.2)
  refine vadopt fun β κ R3 hL => ⟨_, nRanks zs _ R3 (hrow (hL.2 1 _ rfl)) (by omega), ?_⟩
  rintro R4 rv Fr - ⟨hrv, hrn⟩ hFr
  replace hrv := ints_keep hrv hrn hFr
  clear hrn hFr hL
  try simp only [go_sem, ↓reduceIte, Nat.reduceEqDiff, Nat.reduceAdd, Nat.reduceMul, Nat.reduceLeDiff, Nat.reduceLT, Nat.reduceBNe, reduceCtorEq]
  refine vadopt fun β κ R5 hL => ⟨_, nRising zs _ R5 (hrow (hL.2 1 _ rfl)) (by omega), ?_⟩
  rintro R6 sv Fs - ⟨hsv, hsn⟩ hFs
  replace hsv := ints_keep hsv hsn hFs
  clear hsn hFs hL
  try simp only [go_sem, ↓reduceIte, Nat.reduceEqDiff, Nat.reduceAdd, Nat.reduceMul, Nat.reduceLeDiff, Nat.reduceLT, Nat.reduceBNe, reduceCtorEq]
  obtain ⟨ra, rc, rfl, hrc, hrf⟩ := hrv.form
  obtain ⟨sa, sc, rfl, hsc, hsf⟩ := hsv.form
  refine vcall (nFew xs v _ (h.mono (RO.le_trans hle1 hle2))) ?_
  intro R7 u7 hle7 hu7
  rw [← hzs] at hu7
  obtain ⟨a7, cap7, rfl, hc7, hf7⟩ := hu7.form
  try simp only [go_sem, ↓reduceIte, Nat.reduceEqDiff, Nat.reduceAdd, Nat.reduceMul, Nat.reduceLeDiff, Nat.reduceLT, Nat.reduceBNe, reduceCtorEq]
  refine vlend fun β κ R8 hL => ⟨_, nSame zs zs _ _ R8 (hrow (hL.2 1 _ rfl)) (hu7.mono hL.1) (by omega), ?_⟩
  rintro R9 r R10 - rfl hle10 -
  try simp only [go_sem, ↓reduceIte, Nat.reduceEqDiff, Nat.reduceAdd, Nat.reduceMul, Nat.reduceLeDiff, Nat.reduceLT, Nat.reduceBNe, reduceCtorEq]
  have hrl := rising_len zs
  have hsrc : ∀ {b : List Blk} {R : RO} {kk : List Value → Prop} {t : Tok kk}, b[3]? = some (.own Fs) → kk ((rising zs).map (.int .i64)) → SrcP (allR b R) 1 sa (rising zs).length kk t := fun hb hk => by
    refine vsrcO 3 Fs hb ((rising zs).map (.int .i64)) (by simp) (fun u hu => by obtain ⟨_, _, rfl⟩ := List.mem_map.1 hu; rfl) (fun hne => ?_) hk
    have h0 : 0 < (rising zs).length := by
      have := List.length_pos_iff.2 hne
      simpa using this
    obtain ⟨ad, e, _⟩ := hsf 0 h0
    refine ⟨ad, e, fun i u hi => ?_⟩
    rw [List.getElem?_map] at hi
    obtain ⟨x, hx, rfl⟩ := Option.map_eq_some_iff.1 hi
    obtain ⟨hlt, rfl⟩ := List.getElem?_eq_some_iff.1 hx
    obtain ⟨ad', e', hR⟩ := hsf i hlt
    rw [e] at e'
    simp only [Option.some.injEq] at e'
    subst e'
    exact hR
  refine hsrc rfl ?_
  try simp only [go_sem, ↓reduceIte, Nat.reduceEqDiff, Nat.reduceAdd, Nat.reduceMul, Nat.reduceLeDiff, Nat.reduceLT, Nat.reduceBNe, reduceCtorEq]
  refine vappO [] rfl rfl (by omega) ?_
  try simp only [go_sem, ↓reduceIte, Nat.reduceEqDiff, Nat.reduceAdd, Nat.reduceMul, Nat.reduceLeDiff, Nat.reduceLT, Nat.reduceBNe, reduceCtorEq]
  refine vcLoop Nat (fun i => [(10, .val (.int .i64 i)), (6, .sl 1 zs.length), (1, .val (.int .i64 by')), (7, .val (.slice ra (zs.map fun x => (rank zs x : Int)).length rc)), (8, .val (.slice sa (rising zs).length sc)), (9, .sl 5 (rising zs).length), (5, .val (.bool true))])
    (fun i => [.dead, .row 3 1 ((List.replicate i by' ++ zs.drop i).map (.int .i64)), .own Fr, .own Fs, .dead, .row 3 1 ((rising zs).map (.int .i64))]) (fun i _ => i ≤ zs.length) (fun i => zs.length - i) 0 ?_ ?_ ?_ ?_
  · (try simp only [go_sem, ↓reduceIte, Nat.reduceEqDiff, Nat.reduceAdd, Nat.reduceMul, Nat.reduceLeDiff, Nat.reduceLT, Nat.reduceBNe, reduceCtorEq]) <;> (repeat' (first | rfl | trivial | constructor | (intro h; exact absurd rfl h))) <;> exact RO.le_refl _
  · try simp only [go_sem, ↓reduceIte, Nat.reduceEqDiff, Nat.reduceAdd, Nat.reduceMul, Nat.reduceLeDiff, Nat.reduceLT, Nat.reduceBNe, reduceCtorEq]
  · exact Nat.zero_le _
  rintro i env R11 hle11 hE hi
  (simp only [go_sem] at hE; obtain ⟨e10, e6, e1, e7, e8, e9, e5⟩ := hE; simp only [go_sem, ↓reduceIte, Nat.reduceEqDiff, Nat.reduceAdd, Nat.reduceMul, Nat.reduceLeDiff, Nat.reduceLT, Nat.reduceBNe, reduceCtorEq, e10, e6, e1, e7, e8, e9, e5]; dsimp only at *)
  refine ⟨fun hlt => ?_, fun hge => ?_⟩
  · refine ⟨hlt, by simp; omega, _, W.in64 (by omega), i + 1, by omega, ⟨by norm_cast, ?_, fun _ _ h => h, fun _ _ h => h⟩, by omega⟩
    rw [← List.map_set]
    congr 1
    rw [List.set_append_right _ _ (by simp), List.length_replicate, Nat.sub_self, List.drop_eq_getElem_cons (by omega : i < zs.length), List.set_cons_zero, List.replicate_succ', List.append_assoc]
    rfl
  · obtain rfl : i = zs.length := by omega
    refine vcLoop (Nat × RO) (fun i => [(11, .val (.int .i64 i.1)), (1, .val (.int .i64 by')), (7, .val (.slice ra (zs.map fun x => (rank zs x : Int)).length rc)), (8, .val (.slice sa (rising zs).length sc)), (9, .sl 5 (rising zs).length), (5, .val (.bool true))])
      (fun i => [.dead, .dead, .own i.2, .own Fs, .dead, .row 3 1 ((rising zs).map (.int .i64))]) (fun i _ => i.1 ≤ zs.length ∧ ∀ j, j < zs.length → ∃ ad z, ra = some ad ∧ i.2 (ad.add j) (.int .i64 z)) (fun i => zs.length - i.1) (0, Fr) ?_ ?_ ?_ ?_
    · (try simp only [go_sem, ↓reduceIte, Nat.reduceEqDiff, Nat.reduceAdd, Nat.reduceMul, Nat.reduceLeDiff, Nat.reduceLT, Nat.reduceBNe, reduceCtorEq]) <;> (repeat' (first | rfl | trivial | constructor | (intro h; exact absurd rfl h))) <;> exact RO.le_refl _
    · try simp only [go_sem, ↓reduceIte, Nat.reduceEqDiff, Nat.reduceAdd, Nat.reduceMul, Nat.reduceLeDiff, Nat.reduceLT, Nat.reduceBNe, reduceCtorEq]
    · exact ⟨Nat.zero_le _, fun j hj => by obtain ⟨ad, h1, h2⟩ := hrf j (by simpa using hj); exact ⟨ad, _, h1, h2⟩⟩
    rintro ⟨i, Fq⟩ env R12 hle12 hE ⟨hi, hq⟩
    simp only at hE hi hq
    (simp only [go_sem] at hE; obtain ⟨e11, e1', e7', e8', e9', e5'⟩ := hE; simp only [go_sem, ↓reduceIte, Nat.reduceEqDiff, Nat.reduceAdd, Nat.reduceMul, Nat.reduceLeDiff, Nat.reduceLT, Nat.reduceBNe, reduceCtorEq, e11, e1', e7', e8', e9', e5']; dsimp only at *)
    refine ⟨fun hlt => ?_, fun hge => ?_⟩
    · have hlt' : i < zs.length := by simpa using hlt
      obtain ⟨ad, z, had, hz⟩ := hq i hlt'
      refine ⟨hlt, vat ad had ?_⟩
      try simp only [go_sem, ↓reduceIte, Nat.reduceEqDiff, Nat.reduceAdd, Nat.reduceMul, Nat.reduceLeDiff, Nat.reduceLT, Nat.reduceBNe, reduceCtorEq]
      refine vstoreO 2 Fq rfl rfl (by omega) (fun j hj => ?_) (by simp [Value.cells, Value.oneCell']) ?_
      · obtain rfl : j = 0 := by omega
        exact ⟨_, by rw [show (ad.add i).add 0 = ad.add i by rw [add_add, Nat.add_zero]]; exact hz⟩
      simp only [go_sem, ↓reduceIte, Nat.reduceEqDiff, Nat.reduceAdd, Nat.reduceMul, Nat.reduceLeDiff, Nat.reduceLT, Nat.reduceBNe, reduceCtorEq, e11, e1', e7', e8', e9', e5']
      refine ⟨_, W.in64 (by omega), (i + 1, putF Fq (ad.add i) [.int .i64 by']), by dsimp only; omega, ⟨by norm_cast, RO.le_refl _, RO.le_refl _⟩, by dsimp only; omega, fun j hj => ?_⟩
      by_cases hji : j = i
      · subst hji
        refine ⟨ad, by', had, ?_⟩
        have := putF_at (F := Fq) (a := ad.add j) (us := [.int .i64 by']) (i := 0) rfl
        rwa [add_add, Nat.add_zero] at this
      · obtain ⟨ad', z', e', hz'⟩ := hq j hj
        rw [had] at e'
        simp only [Option.some.injEq] at e'
        subst e'
        refine ⟨ad, z', had, putF_ne hz' fun h => hji ?_⟩
        obtain ⟨-, h1, h2⟩ := h
        rw [add_off, add_off] at h1 h2
        simp only [List.length_cons, List.length_nil] at h2
        omega
    · refine vlend fun β κ R13 hL => ⟨_, nSame (rising zs) (rising zs) _ _ R13 (hsv.mono (hL.2 3 _ rfl)) ?_ (by omega), ?_⟩
      · have := hL.2 5 _ rfl
        exact RowIn.ints this.1 (by simpa using this.2)
      rintro R14 r R15 - rfl hle15 -
      simp only [go_sem, ↓reduceIte, Nat.reduceEqDiff, Nat.reduceAdd, Nat.reduceMul, Nat.reduceLeDiff, Nat.reduceLT, Nat.reduceBNe, reduceCtorEq, e11, e1', e7', e8', e9', e5']
end Go.Proofs.Ytlakekoekilbaaa
