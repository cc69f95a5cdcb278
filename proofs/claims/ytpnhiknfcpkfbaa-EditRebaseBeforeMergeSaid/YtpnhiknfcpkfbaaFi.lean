import Derived.Test.YtpnhiknfcpkfbaaFg
namespace Go.Proofs.Ytpnhiknfcpkfbaa
set_option linter.unusedSimpArgs false
set_option linter.unusedVariables false
open Go.Proofs.Ytpnhiknfcpkfbaa.Vc
/-- A list of edits, as they lie. -/
theorem EdsV.pls {R : RO} {v : Value} {ds : List De} (h : EdsV R v ds) : ∃ (a : Option Addr) (cap : Nat) (ps : List Pl), v = .slice a ds.length cap ∧ ds.length ≤ cap ∧ ps.map (·.1) = ds ∧ (∀ p ∈ ps, PlOK R p) ∧ (rowP ps ≠ [] → ∃ ad, a = some ad ∧ ∀ i v, (rowP ps)[i]? = some v → R (ad.add i) v) := by
  obtain ⟨a, cap, rfl, hc, hf⟩ := PlOK.of h
  let f : Nat → Pl := fun i => if h : i < ds.length then (hf i h).choose_spec.choose else default
  have hfi : ∀ i (hi : i < ds.length), ∃ ad, a = some ad ∧ (f i).1 = ds[i] ∧ (∀ j u, ((f i).ed.cells)[j]? = some u → R ((ad.add (i * 13)).add j) u) ∧ PlOK R (f i) := fun i hi => by
    refine ⟨(hf i hi).choose, ?_⟩
    have hs := (hf i hi).choose_spec.choose_spec
    simp only [f, hi, dif_pos]
    exact hs
  refine ⟨a, cap, (List.range ds.length).map f, rfl, hc, ?_, fun p hp => ?_, fun hne => ?_⟩
  · apply List.ext_getElem
    · simp
    · intro i h1 h2
      obtain ⟨_, _, h3, _⟩ := hfi i h2
      simpa using h3
  · obtain ⟨i, hi, rfl⟩ := List.mem_map.1 hp
    obtain ⟨_, _, _, _, h4⟩ := hfi i (List.mem_range.1 hi)
    exact h4
  · have hl : 0 < ds.length := by
      have h1 := rowP_len ((List.range ds.length).map f)
      have h2 := List.length_pos_iff.2 hne
      simp at h1
      omega
    obtain ⟨ad, ha, _⟩ := hfi 0 hl
    refine ⟨ad, ha, fun i v hi => ?_⟩
    obtain ⟨us, hus, hu⟩ := flat_get (k := 13) (cellsP_len _) (by omega) hi
    rw [List.getElem?_map, List.getElem?_map] at hus
    obtain ⟨p, hp, rfl⟩ := Option.map_eq_some_iff.1 hus
    obtain ⟨q, hq, rfl⟩ := Option.map_eq_some_iff.1 hp
    have hqq := List.getElem?_eq_some_iff.1 hq
    simp only [List.length_range, List.getElem_range] at hqq
    obtain ⟨hlt, rfl⟩ := hqq
    obtain ⟨ad', ha', _, hR, _⟩ := hfi (i / 13) hlt
    rw [ha] at ha'
    simp only [Option.some.injEq] at ha'
    subst ha'
    have := hR _ _ hu
    rw [add_add, Nat.mul_comm, Nat.div_add_mod] at this
    exact this
/-! ### A list whose first edit is not valid -/
theorem eSortedBad (e : Ed) (ad : Addr) (n cap : Nat) (R : RO) (h : ∀ j u, e.cells[j]? = some u → R (ad.add j) u) (hv : validE e = false) (hn : 0 < n ∧ n ≤ 4096) : CallsR Try.prog 31 [.slice (some ad) n cap] R fun _ r => r = .tuple #[.slice none 0 0, .int .i64 1] := by
  have hV := eValid e
  simp only [Ed.val] at hV
  refine callsT mix Try.func31 comp31 (by simp [Try.ntmps31]) ?_; simp only [go_sem, ↓reduceIte, Nat.reduceEqDiff, Nat.reduceAdd, Nat.reduceMul, Nat.reduceLeDiff, Nat.reduceLT, Nat.reduceBNe, reduceCtorEq, vc31, rs31]
  refine ⟨fun hgt => by omega, fun hle => ?_⟩
  refine vcLoop Unit (fun _ => [(17, .val (.int .i64 0)), (16, .val (.int .i64 n)), (15, .val (.slice (some ad) n cap)), (4, .mp 0), (5, .val (.slice none 0 0))]) (fun _ => [.mp [] 0]) (fun _ _ => True) (fun _ => 0) () ?_ rfl trivial ?_
  · (try simp only [go_sem, ↓reduceIte, Nat.reduceEqDiff, Nat.reduceAdd, Nat.reduceMul, Nat.reduceLeDiff, Nat.reduceLT, Nat.reduceBNe, reduceCtorEq]) <;> (repeat' (first | rfl | trivial | constructor | (intro h; exact absurd rfl h)))
  rintro _ env R1 hle1 hE _
  (simp only [go_sem] at hE; obtain ⟨e17, e16, e15, e4, e5⟩ := hE; simp only [go_sem, ↓reduceIte, Nat.reduceEqDiff, Nat.reduceAdd, Nat.reduceMul, Nat.reduceLeDiff, Nat.reduceLT, Nat.reduceBNe, reduceCtorEq, e17, e16, e15, e4, e5]; dsimp only at *)
  refine ⟨fun hlt => ⟨Int.le_refl 0, hlt, ?_⟩, fun hge => by omega⟩
  refine vloadn e.cells rfl (fun j u hj => hle1 _ _ (h j u hj)) ?_
  simp only [go_sem, ↓reduceIte, Nat.reduceEqDiff, Nat.reduceAdd, Nat.reduceMul, Nat.reduceLeDiff, Nat.reduceLT, Nat.reduceBNe, reduceCtorEq, Ed.cells, e17, e16, e15, e4, e5]
  refine vcall (hV R1) ?_
  rintro R2 v hle2 rfl
  rw [hv]
  try simp only [go_sem, ↓reduceIte, Nat.reduceEqDiff, Nat.reduceAdd, Nat.reduceMul, Nat.reduceLeDiff, Nat.reduceLT, Nat.reduceBNe, reduceCtorEq]
theorem eRebaseBad (e : Ed) (ad : Addr) (n cap : Nat) (R : RO) (h : ∀ j u, e.cells[j]? = some u → R (ad.add j) u) (hv : validE e = false) (hn : 0 < n ∧ n ≤ 4096) : CallsR Try.prog 17 [.slice (some ad) n cap] R fun _ r => r = .tuple #[.slice none 0 0, .slice none 0 0, .int .i64 1] := by
  refine callsT mix Try.func17 comp17 (by simp [Try.ntmps17]) ?_; simp only [go_sem, ↓reduceIte, Nat.reduceEqDiff, Nat.reduceAdd, Nat.reduceMul, Nat.reduceLeDiff, Nat.reduceLT, Nat.reduceBNe, reduceCtorEq, vc17, rs17]
  refine vcall (eSortedBad e ad n cap R h hv hn) ?_
  rintro R1 v hle1 rfl
  try simp only [go_sem, ↓reduceIte, Nat.reduceEqDiff, Nat.reduceAdd, Nat.reduceMul, Nat.reduceLeDiff, Nat.reduceLT, Nat.reduceBNe, reduceCtorEq, Int.reduceLE, Int.reduceLT, Int.reduceToNat, Int.cast_ofNat_Int, Int.reduceEq, Int.reduceNe]
theorem eAtBad (e : Ed) (ad : Addr) (n cap : Nat) (R : RO) (day : Int) (h : ∀ j u, e.cells[j]? = some u → R (ad.add j) u) (hv : validE e = false) (hn : 0 < n ∧ n ≤ 4096) : CallsR Try.prog 24 [.agg Se.zero.cells.toArray, .slice (some ad) n cap, .int .i64 day] R fun _ r => r = .tuple #[.agg Se.zero.cells.toArray, .bool false, .int .i64 1] := by
  simp only [Se.zero, Se.cells]
  refine callsT mix Try.func24 comp24 (by simp [Try.ntmps24]) ?_; simp only [go_sem, ↓reduceIte, Nat.reduceEqDiff, Nat.reduceAdd, Nat.reduceMul, Nat.reduceLeDiff, Nat.reduceLT, Nat.reduceBNe, reduceCtorEq, vc24, rs24]
  refine vcall (eRebaseBad e ad n cap R h hv hn) ?_
  rintro R1 v hle1 rfl
  try simp only [go_sem, ↓reduceIte, Nat.reduceEqDiff, Nat.reduceAdd, Nat.reduceMul, Nat.reduceLeDiff, Nat.reduceLT, Nat.reduceBNe, reduceCtorEq, Int.reduceLE, Int.reduceLT, Int.reduceToNat, Int.cast_ofNat_Int, Int.reduceEq, Int.reduceNe]
/-- An edit that conflicts with one of a consistent list. -/
theorem conflict {xs : List De} {d x : De} (h : Cons xs) (hl : xs.length ≤ 4095) (hx : x ∈ xs) (hk : keyEq d x = true) (hne : x ≠ d) : allD (xs ++ [d]) = .error 1 := by
  obtain ⟨o, h1, h2⟩ := distD_cons xs [] h.1 (by simpa using h.2)
  unfold allD
  rw [if_neg (by simp; omega), distD_snoc, h1]
  have : addD o d = none := by
    by_cases hv : validD d = true
    · have hxo : x ∈ o := (h2 x).2 (.inr hx)
      cases hf : o.find? (keyEq d) with
      | none => exact absurd hk (by simpa using List.find?_eq_none.1 hf x hxo)
      | some y =>
        have hy := List.mem_of_find?_eq_some hf
        have hky := List.find?_some hf
        have hyx : y = x := by
          have hy' := (h2 y).1 hy
          refine h.2 y (by simpa using hy') x hx ?_
          rw [keyEq_iff] at *
          omega
        rw [addD_old hv hf, if_neg (by rw [hyx]; exact hne)]
    · exact addD_invalid (by simpa using hv)
  simp only [Option.bind_some, this]
  rfl
def dOther (x : De) : De := ⟨5, 77, x.device, x.seq, mv0, 0, 0, [], ⟨#[]⟩⟩
theorem lConflicts (R : RO) (es : List Ed) (v : Value) (h : EdC R v es) (hl : es.length ≤ 1099511627776) (s : Ed) (at_ : Int) (ht : 0 ≤ at_ ∧ at_ ≤ 255) : CallsR Try.prog 9 [v, s.val, .int .u8 at_] R fun _ v => v = .bool true := by
  have hMd := fun R' hle => eMade es v R' (EdC.mono (R' := R') h hle) hl
  obtain ⟨a, cap, rfl, hc, _⟩ := h.form
  simp only [Ed.val]
  refine callsT mix Try.func9 comp9 (by simp [Try.ntmps9]) ?_; simp only [go_sem, ↓reduceIte, Nat.reduceEqDiff, Nat.reduceAdd, Nat.reduceMul, Nat.reduceLeDiff, Nat.reduceLT, Nat.reduceBNe, reduceCtorEq, vc9, rs9]
  refine vcall (eSanity R) ?_
  rintro R1 v hle1 rfl
  try simp only [go_sem, ↓reduceIte, Nat.reduceEqDiff, Nat.reduceAdd, Nat.reduceMul, Nat.reduceLeDiff, Nat.reduceLT, Nat.reduceBNe, reduceCtorEq]
  obtain ⟨xs, hxs⟩ : ∃ xs, xs = madeL es := ⟨_, rfl⟩
  have hxl := madeL_len es
  have hcons := madeL_cons es
  have hmade := madeL_made es
  rw [← hxs] at hMd hxl hcons hmade
  refine vcall (hMd R1 hle1) ?_
  intro R2 u hle2 hx
  have hx13 := hx
  obtain ⟨xa, xcap, ps, rfl, hxc, hps, hpo, hsrc⟩ := hx.pls
  try simp only [go_sem, ↓reduceIte, Nat.reduceEqDiff, Nat.reduceAdd, Nat.reduceMul, Nat.reduceLeDiff, Nat.reduceLT, Nat.reduceBNe, reduceCtorEq]
  intro h0
  obtain ⟨k, hk⟩ : ∃ k, k = (at_ % xs.length).toNat := ⟨_, rfl⟩
  have hlen : (0 : Int) < xs.length := by omega
  have hk1 := Int.emod_nonneg at_ (show (xs.length : Int) ≠ 0 by omega)
  have hk2 := Int.emod_lt_of_pos at_ hlen
  have htm : at_.tmod xs.length = at_ % xs.length := tmod_nonneg' (by omega)
  have hkl : k < xs.length := by omega
  have hpl : ps.length = xs.length := by rw [← hps]; simp
  obtain ⟨p, hp⟩ : ∃ p, p = ps[k]'(by omega) := ⟨_, rfl⟩
  have hpx : p.1 = xs[k] := by
    rw [hp]
    have : (ps.map (·.1))[k]'(by simp; omega) = xs[k] := by simp only [hps]
    rw [← this]; simp
  have hpne : rowP ps ≠ [] := fun e => by have := rowP_len ps; rw [e] at this; simp at this; omega
  obtain ⟨ad, had, hR⟩ := hsrc hpne
  refine ⟨_, W.in64 (by omega), h0, ?_⟩
  rw [htm]
  refine ⟨hk1, hk2, ?_⟩
  rw [← hk]
  refine vat ad had ?_
  try simp only [go_sem, ↓reduceIte, Nat.reduceEqDiff, Nat.reduceAdd, Nat.reduceMul, Nat.reduceLeDiff, Nat.reduceLT, Nat.reduceBNe, reduceCtorEq]
  refine vloadn p.ed.cells rfl (fun j u hj => ?_) ?_
  · rw [add_add]
    refine hR _ _ ?_
    have hj13 : j < 13 := (List.getElem?_eq_some_iff.1 hj).1
    rw [rowP_get ps k j (by omega) hj13, ← hp]
    exact hj
  simp only [go_sem, ↓reduceIte, Nat.reduceEqDiff, Nat.reduceAdd, Nat.reduceMul, Nat.reduceLeDiff, Nat.reduceLT, Nat.reduceBNe, reduceCtorEq, Ed.cells, Pl.ed, De.ed]
  have hsrc2 : ∀ {kk : List Value → Prop} {t : Tok kk}, kk (rowP ps) → SrcP R2 13 xa xs.length kk t := fun hkk =>
    vsrc (rowP ps) (by rw [rowP_len, hpl]) (fun u hu => by
      unfold rowP at hu
      obtain ⟨c, hc', hu'⟩ := List.mem_flatten.1 hu
      obtain ⟨q, _, rfl⟩ := List.mem_map.1 hc'
      exact edcells_one _ u hu') hsrc hkk
  refine hsrc2 ?_
  try simp only [go_sem, ↓reduceIte, Nat.reduceEqDiff, Nat.reduceAdd, Nat.reduceMul, Nat.reduceLeDiff, Nat.reduceLT, Nat.reduceBNe, reduceCtorEq]
  refine vappO [] rfl rfl (by omega) ?_
  try simp only [go_sem, ↓reduceIte, Nat.reduceEqDiff, Nat.reduceAdd, Nat.reduceMul, Nat.reduceLeDiff, Nat.reduceLT, Nat.reduceBNe, reduceCtorEq]
  refine vappO (rowP ps) rfl (by rw [rowP_len]; omega) (by omega) ?_
  try simp only [go_sem, ↓reduceIte, Nat.reduceEqDiff, Nat.reduceAdd, Nat.reduceMul, Nat.reduceLeDiff, Nat.reduceLT, Nat.reduceBNe, reduceCtorEq]
  refine hsrc2 ?_
  try simp only [go_sem, ↓reduceIte, Nat.reduceEqDiff, Nat.reduceAdd, Nat.reduceMul, Nat.reduceLeDiff, Nat.reduceLT, Nat.reduceBNe, reduceCtorEq]
  obtain ⟨wr, hwr⟩ : ∃ wr : Ed, wr = ⟨s.kind, s.day, 16, s.seq, s.mv, s.minute, s.length, s.ra, s.rn, s.rc, s.zone⟩ := ⟨_, rfl⟩
  have hwv : validE wr = false := by rw [hwr]; simp [validE, betw]
  refine vappO wr.cells (by rw [hwr]; rfl) rfl (by omega) ?_
  try simp only [go_sem, ↓reduceIte, Nat.reduceEqDiff, Nat.reduceAdd, Nat.reduceMul, Nat.reduceLeDiff, Nat.reduceLT, Nat.reduceBNe, reduceCtorEq]
  refine vfreeze ?_
  try simp only [go_sem, ↓reduceIte, Nat.reduceEqDiff, Nat.reduceAdd, Nat.reduceMul, Nat.reduceLeDiff, Nat.reduceLT, Nat.reduceBNe, reduceCtorEq]
  intro b cap2 R3 hle3 hrow hcap2 hfr
  have hE1 : EdsV R3 (.slice (some ⟨b, 0, none⟩) (xs.length + 1) cap2) (xs ++ [dOther p.1]) := by
    have h1 := EdsV.row (R := R3) (b := b) (cap := cap2) (ps := ps ++ [(dOther p.1, none, 0, 0)]) (by rw [rowP_snoc]; exact hrow) (by rw [rowP_snoc, List.length_append]; exact hcap2) (fun q hq => by
      rcases List.mem_append.1 hq with hq | hq
      · exact (hpo q hq).mono hle3
      · simp only [List.mem_cons, List.not_mem_nil, or_false] at hq; subst hq; exact RuleV.nil _) (by simp; omega)
    rw [List.map_append, hps, List.length_append, hpl] at h1
    exact h1
  have hpm : p.1 ∈ xs := by rw [hpx]; exact List.getElem_mem hkl
  have hbad : allD (xs ++ [dOther p.1]) = .error 1 := by
    refine conflict hcons (by omega) hpm (by simp [keyEq, dOther]) fun e => ?_
    obtain ⟨e0, he0⟩ := hmade _ hpm
    have h1 : p.1.day = 77 := by rw [e]; rfl
    rw [he0] at h1
    have a1 := Int.emod_nonneg e0.day (show (10 : Int) ≠ 0 by omega)
    have a2 := Int.emod_lt_of_pos e0.day (show (0 : Int) < 10 by omega)
    unfold madeE at h1
    simp only at h1
    split at h1 <;> omega
  refine vcall (eRebase _ _ R3 hE1) ?_
  intro R4 r hle4 hr
  unfold RebV at hr
  rw [hbad] at hr
  dsimp only at hr
  subst hr
  try simp only [go_sem, ↓reduceIte, Nat.reduceEqDiff, Nat.reduceAdd, Nat.reduceMul, Nat.reduceLeDiff, Nat.reduceLT, Nat.reduceBNe, reduceCtorEq]
  refine vfreeze ?_
  try simp only [go_sem, ↓reduceIte, Nat.reduceEqDiff, Nat.reduceAdd, Nat.reduceMul, Nat.reduceLeDiff, Nat.reduceLT, Nat.reduceBNe, reduceCtorEq]
  intro b2 cap3 R5 hle5 hrow2 hcap3 hfr2
  have hbd : ∀ R6, RO.le R5 R6 → ∀ j u, wr.cells[j]? = some u → R6 ((⟨b2, 0, none⟩ : Addr).add j) u := fun R6 hle6 j u hj => by
    rw [Addr.add_lit, Nat.zero_add]
    refine hle6 _ _ (hrow2 j u ?_)
    have hj13 : j < wr.cells.length := (List.getElem?_eq_some_iff.1 hj).1
    rw [List.getElem?_append_left hj13]
    exact hj
  refine vcall (eRebaseBad wr ⟨b2, 0, none⟩ _ cap3 R5 (hbd R5 (RO.le_refl _)) hwv (by omega)) ?_
  rintro R6 v hle6 rfl
  try simp only [go_sem, ↓reduceIte, Nat.reduceEqDiff, Nat.reduceAdd, Nat.reduceMul, Nat.reduceLeDiff, Nat.reduceLT, Nat.reduceBNe, reduceCtorEq]
  refine vcall (eMerge Se.zero [] [] _ _ R6 (RuleV.nil _) (EncV.nil _ _ _) (hE1.mono (RO.le_trans hle4 (RO.le_trans hle5 hle6))) (by simp; omega)) ?_
  intro R7 r hle7 hr
  unfold MergeV at hr
  rw [hbad] at hr
  dsimp only at hr
  subst hr
  try simp only [go_sem, ↓reduceIte, Nat.reduceEqDiff, Nat.reduceAdd, Nat.reduceMul, Nat.reduceLeDiff, Nat.reduceLT, Nat.reduceBNe, reduceCtorEq]
  refine vcall (eAtBad wr ⟨b2, 0, none⟩ _ cap3 R7 1 (hbd R7 (RO.le_trans hle6 hle7)) hwv (by omega)) ?_
  rintro R8 v hle8 rfl
  try simp only [go_sem, ↓reduceIte, Nat.reduceEqDiff, Nat.reduceAdd, Nat.reduceMul, Nat.reduceLeDiff, Nat.reduceLT, Nat.reduceBNe, reduceCtorEq, Int.reduceLE, Int.reduceLT, Int.reduceToNat, Int.cast_ofNat_Int, Int.reduceEq, Int.reduceNe]
  exact ⟨rfl, rfl⟩
end Go.Proofs.Ytpnhiknfcpkfbaa
