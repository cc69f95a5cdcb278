import Derived.Test.YtpnhiknfcpkfbaaFd
namespace Go.Proofs.Ytpnhiknfcpkfbaa
set_option linter.unusedSimpArgs false
set_option linter.unusedVariables false
open Go.Proofs.Ytpnhiknfcpkfbaa.Vc
theorem PartsV.form {R : RO} {v : Value} {ps : List Pa} (h : PartsV R v ps) : ∃ a cap, v = .slice a ps.length cap ∧ ps.length ≤ cap ∧ ∀ i (hi : i < ps.length), ∃ ad ra rn rc ma mc, a = some ad ∧
    (∀ j u, (paCells (ps[i]).day ⟨.slice ra rn rc, (ps[i]).ti.minute, (ps[i]).ti.length, (ps[i]).ti.zone, (ps[i]).ti.gap, (ps[i]).ti.fold, .slice ma (ps[i]).moves.length mc⟩)[j]? = some u → R ((ad.add (i * 8)).add j) u) ∧ RuleV R (.slice ra rn rc) (ps[i]).ti.rule ∧ EncV Mv.cells 5 R (.slice ma (ps[i]).moves.length mc) (ps[i]).moves := by
  obtain ⟨cs, h1, h2, h3, h4⟩ := h
  obtain ⟨a, cap, rfl, hc, hf⟩ := SlK.form h1
  refine ⟨a, cap, by rw [h2], by omega, fun i hi => ?_⟩
  obtain ⟨_, ad, ha, hR⟩ := hf i (by omega)
  obtain ⟨rv, mv, e, g1, g2⟩ := h3 i _ _ (List.getElem?_eq_getElem (by omega)) (List.getElem?_eq_getElem hi)
  obtain ⟨ra, rn, rc, rfl⟩ := g1.form
  obtain ⟨ma, mc, rfl, _⟩ := g2.form
  rw [e] at hR
  exact ⟨ad, ra, rn, rc, ma, mc, ha, hR, g1, g2⟩
theorem addr_add (a : Addr) (i j k : Nat) (h : j + k = i) : (a.add j).add k = a.add i := by rw [add_add, h]
theorem eSameParts (xs ys : List Pa) (v u : Value) (R : RO) (h : PartsV R v xs) (k : PartsV R u ys) : CallsR Try.prog 21 [v, u] R fun _ r => r = .bool (decide (xs = ys)) := by
  have hxl : xs.length ≤ 1000000000 := by obtain ⟨_, _, _, _, h⟩ := h; exact h
  obtain ⟨a, cap, rfl, hc, hf⟩ := h.form
  obtain ⟨b, cap', rfl, hc', hf'⟩ := k.form
  refine callsT mix Try.func21 comp21 (by simp [Try.ntmps21]) ?_; simp only [go_sem, ↓reduceIte, Nat.reduceEqDiff, Nat.reduceAdd, Nat.reduceMul, Nat.reduceLeDiff, Nat.reduceLT, Nat.reduceBNe, reduceCtorEq, vc21, rs21]
  refine ⟨fun hne => ?_, fun he => ?_⟩
  · rw [decide_eq_false]; rintro rfl; exact hne rfl
  have he' : xs.length = ys.length := by omega
  refine vcLoop Nat (fun i => [(5, .val (.int .i64 i)), (0, .val (.slice a xs.length cap)), (1, .val (.slice b ys.length cap'))]) (fun _ => []) (fun i _ => i ≤ xs.length ∧ xs.take i = ys.take i) (fun i => xs.length - i) 0 ?_ rfl ?_ ?_
  · (try simp only [go_sem, ↓reduceIte, Nat.reduceEqDiff, Nat.reduceAdd, Nat.reduceMul, Nat.reduceLeDiff, Nat.reduceLT, Nat.reduceBNe, reduceCtorEq]) <;> (repeat' (first | rfl | trivial | constructor | (intro h; exact absurd rfl h)))
  · exact ⟨Nat.zero_le _, rfl⟩
  rintro i env R1 hle hE ⟨hi, hp⟩
  (simp only [go_sem] at hE; obtain ⟨e5, e0, e1⟩ := hE; simp only [go_sem, ↓reduceIte, Nat.reduceEqDiff, Nat.reduceAdd, Nat.reduceMul, Nat.reduceLeDiff, Nat.reduceLT, Nat.reduceBNe, reduceCtorEq, e5, e0, e1]; dsimp only at *)
  refine ⟨fun hlt => ⟨hlt, ?_⟩, fun hge => ?_⟩
  · have hlt' : i < xs.length := by omega
    obtain ⟨ad, ra, rn, rc, ma, mc, had, hR, hr, hm⟩ := hf i hlt'
    obtain ⟨ad', ra', rn', rc', ma', mc', had', hR', hr', hm'⟩ := hf' i (by omega)
    obtain ⟨x, hxe⟩ : ∃ x, x = xs[i] := ⟨_, rfl⟩
    obtain ⟨y, hye⟩ : ∃ y, y = ys[i] := ⟨_, rfl⟩
    rw [← hxe] at hR hr hm
    rw [← hye] at hR' hr' hm'
    have hT := eSameTimes ⟨.slice ra rn rc, x.ti.minute, x.ti.length, x.ti.zone, x.ti.gap, x.ti.fold, .slice ma x.moves.length mc⟩ ⟨.slice ra' rn' rc', y.ti.minute, y.ti.length, y.ti.zone, y.ti.gap, y.ti.fold, .slice ma' y.moves.length mc'⟩ x.ti.rule y.ti.rule R1 (hr.mono hle) (hr'.mono hle)
    have hM := fun R2 hle2 => eSameMoves x.moves y.moves _ _ R2 ((hm.mono hle).mono hle2) ((hm'.mono hle).mono hle2)
    refine vat ad had ?_
    try simp only [go_sem, ↓reduceIte, Nat.reduceEqDiff, Nat.reduceAdd, Nat.reduceMul, Nat.reduceLeDiff, Nat.reduceLT, Nat.reduceBNe, reduceCtorEq]
    refine vloadn (Se.cells ⟨.slice ra rn rc, x.ti.minute, x.ti.length, x.ti.zone, x.ti.gap, x.ti.fold, .slice ma x.moves.length mc⟩) rfl (fun j u hj => by show R1 (((ad.add (i * 8)).add 1).add j) u; rw [addr_add _ (1 + j) 1 j rfl]; exact hle _ _ (hR (1 + j) u (by rw [Nat.add_comm]; exact hj))) ?_
    simp only [go_sem, ↓reduceIte, Nat.reduceEqDiff, Nat.reduceAdd, Nat.reduceMul, Nat.reduceLeDiff, Nat.reduceLT, Nat.reduceBNe, reduceCtorEq, e5, e0, e1]
    refine ⟨by omega, vat ad' had' ?_⟩
    try simp only [go_sem, ↓reduceIte, Nat.reduceEqDiff, Nat.reduceAdd, Nat.reduceMul, Nat.reduceLeDiff, Nat.reduceLT, Nat.reduceBNe, reduceCtorEq]
    refine vloadn (Se.cells ⟨.slice ra' rn' rc', y.ti.minute, y.ti.length, y.ti.zone, y.ti.gap, y.ti.fold, .slice ma' y.moves.length mc'⟩) rfl (fun j u hj => by show R1 (((ad'.add (i * 8)).add 1).add j) u; rw [addr_add _ (1 + j) 1 j rfl]; exact hle _ _ (hR' (1 + j) u (by rw [Nat.add_comm]; exact hj))) ?_
    simp only [go_sem, ↓reduceIte, Nat.reduceEqDiff, Nat.reduceAdd, Nat.reduceMul, Nat.reduceLeDiff, Nat.reduceLT, Nat.reduceBNe, reduceCtorEq, e5, e0, e1]
    refine vcall hT ?_
    rintro R2 w h2 rfl
    simp only [go_sem, ↓reduceIte, Nat.reduceEqDiff, Nat.reduceAdd, Nat.reduceMul, Nat.reduceLeDiff, Nat.reduceLT, Nat.reduceBNe, reduceCtorEq, e5, e0, e1]
    refine ⟨by omega, vat ad had ?_⟩
    try simp only [go_sem, ↓reduceIte, Nat.reduceEqDiff, Nat.reduceAdd, Nat.reduceMul, Nat.reduceLeDiff, Nat.reduceLT, Nat.reduceBNe, reduceCtorEq]
    refine vload (.slice ma x.moves.length mc) (h2 _ _ (hle _ _ (hR 7 _ rfl))) ?_
    simp only [go_sem, ↓reduceIte, Nat.reduceEqDiff, Nat.reduceAdd, Nat.reduceMul, Nat.reduceLeDiff, Nat.reduceLT, Nat.reduceBNe, reduceCtorEq, e5, e0, e1]
    refine ⟨by omega, vat ad' had' ?_⟩
    try simp only [go_sem, ↓reduceIte, Nat.reduceEqDiff, Nat.reduceAdd, Nat.reduceMul, Nat.reduceLeDiff, Nat.reduceLT, Nat.reduceBNe, reduceCtorEq]
    refine vload (.slice ma' y.moves.length mc') (h2 _ _ (hle _ _ (hR' 7 _ rfl))) ?_
    simp only [go_sem, ↓reduceIte, Nat.reduceEqDiff, Nat.reduceAdd, Nat.reduceMul, Nat.reduceLeDiff, Nat.reduceLT, Nat.reduceBNe, reduceCtorEq, e5, e0, e1]
    refine vcall (hM R2 h2) ?_
    rintro R3 w h3 rfl
    have hxy : x = y ↔ x.day = y.day ∧ x.ti = y.ti ∧ x.moves = y.moves := by
      obtain ⟨_, _, _⟩ := x
      obtain ⟨_, _, _⟩ := y
      simp
    have hne : ¬ x = y → decide (xs = ys) = false := fun h => by
      rw [decide_eq_false]; rintro rfl; exact h (by rw [hxe, hye])
    have hti : (Se.ti ⟨.slice ra rn rc, x.ti.minute, x.ti.length, x.ti.zone, x.ti.gap, x.ti.fold, .slice ma x.moves.length mc⟩ x.ti.rule = Se.ti ⟨.slice ra' rn' rc', y.ti.minute, y.ti.length, y.ti.zone, y.ti.gap, y.ti.fold, .slice ma' y.moves.length mc'⟩ y.ti.rule) = (x.ti = y.ti) := rfl
    simp only [hti]
    simp only [go_sem, ↓reduceIte, Nat.reduceEqDiff, Nat.reduceAdd, Nat.reduceMul, Nat.reduceLeDiff, Nat.reduceLT, Nat.reduceBNe, reduceCtorEq, e5, e0, e1]
    refine ⟨fun h4 => ⟨fun h5 => ?_, fun h5 => ?_⟩, fun h4 => ?_⟩
    · refine ⟨by omega, vat ad had ?_⟩
      try simp only [go_sem, ↓reduceIte, Nat.reduceEqDiff, Nat.reduceAdd, Nat.reduceMul, Nat.reduceLeDiff, Nat.reduceLT, Nat.reduceBNe, reduceCtorEq]
      refine vload (.int .i64 x.day) (h3 _ _ (h2 _ _ (hle _ _ (hR 0 _ rfl)))) ?_
      simp only [go_sem, ↓reduceIte, Nat.reduceEqDiff, Nat.reduceAdd, Nat.reduceMul, Nat.reduceLeDiff, Nat.reduceLT, Nat.reduceBNe, reduceCtorEq, e5, e0, e1]
      refine ⟨by omega, vat ad' had' ?_⟩
      try simp only [go_sem, ↓reduceIte, Nat.reduceEqDiff, Nat.reduceAdd, Nat.reduceMul, Nat.reduceLeDiff, Nat.reduceLT, Nat.reduceBNe, reduceCtorEq]
      refine vload (.int .i64 y.day) (h3 _ _ (h2 _ _ (hle _ _ (hR' 0 _ rfl)))) ?_
      simp only [go_sem, ↓reduceIte, Nat.reduceEqDiff, Nat.reduceAdd, Nat.reduceMul, Nat.reduceLeDiff, Nat.reduceLT, Nat.reduceBNe, reduceCtorEq, e5, e0, e1]
      refine ⟨fun h6 => ?_, fun h6 => ?_⟩
      · rw [hne (fun e => h6 (hxy.1 e).1)]
      · refine ⟨_, W.in64 (by omega), i + 1, by omega, by constructor, by omega, ?_⟩
        rw [List.take_succ_eq_append_getElem (by omega : i < xs.length), List.take_succ_eq_append_getElem (by omega : i < ys.length), hp, ← hxe, ← hye, hxy.2 ⟨h6, h4, h5⟩]
    · rw [hne (fun e => h5 (hxy.1 e).2.2)]
    · rw [hne (fun e => h4 (hxy.1 e).2.1)]
  · obtain rfl : i = xs.length := by omega
    rw [List.take_length, he', List.take_length] at hp
    simp [hp]
end Go.Proofs.Ytpnhiknfcpkfbaa
