import Derived.Test.YtpnhiknfcpkfbaaEg
namespace Go.Proofs.Ytpnhiknfcpkfbaa
set_option linter.unusedSimpArgs false
set_option linter.unusedVariables false
open Go.Proofs.Ytpnhiknfcpkfbaa.Vc
theorem eSameInts (xs ys : List Int) (v u : Value) (R : RO) (h : Ints R v xs) (k : Ints R u ys) (hl : xs.length ≤ 1099511627776) : CallsR Try.prog 41 [v, u] R fun _ r => r = .bool (decide (xs = ys)) := by
  obtain ⟨a, cap, rfl, hc, hf⟩ := h.form
  obtain ⟨b, cap', rfl, hc', hf'⟩ := k.form
  refine callsT mix Try.func41 comp41 (by simp [Try.ntmps41]) ?_; simp only [go_sem, ↓reduceIte, Nat.reduceEqDiff, Nat.reduceAdd, Nat.reduceMul, Nat.reduceLeDiff, Nat.reduceLT, Nat.reduceBNe, reduceCtorEq, vc41, rs41]
  refine ⟨fun hne => ?_, fun he => ?_⟩
  · rw [decide_eq_false]; rintro rfl; exact hne rfl
  have he' : xs.length = ys.length := by omega
  refine vcLoop Nat (fun i => [(5, .val (.int .i64 i)), (0, .val (.slice a xs.length cap)), (1, .val (.slice b ys.length cap'))]) (fun _ => []) (fun i _ => i ≤ xs.length ∧ xs.take i = ys.take i) (fun i => xs.length - i) 0 ?_ rfl ?_ ?_
  · (try simp only [go_sem, ↓reduceIte, Nat.reduceEqDiff, Nat.reduceAdd, Nat.reduceMul, Nat.reduceLeDiff, Nat.reduceLT, Nat.reduceBNe, reduceCtorEq]) <;> (repeat' (first | rfl | trivial | constructor | (intro h; exact absurd rfl h)))
  · exact ⟨Nat.zero_le _, rfl⟩
  rintro i env R1 hle hE ⟨hi, hp⟩
  (simp only [go_sem] at hE; obtain ⟨e5, e0, e1⟩ := hE; simp only [go_sem, ↓reduceIte, Nat.reduceEqDiff, Nat.reduceAdd, Nat.reduceMul, Nat.reduceLeDiff, Nat.reduceLT, Nat.reduceBNe, reduceCtorEq, e5, e0, e1]; dsimp only at *)
  refine ⟨fun hlt => ⟨hlt, ?_⟩, fun hge => ?_⟩
  · have hlt' : i < xs.length := by omega
    obtain ⟨ad, had, hR⟩ := hf i hlt'
    obtain ⟨ad', had', hR'⟩ := hf' i (by omega)
    refine vat ad had ?_
    try simp only [go_sem, ↓reduceIte, Nat.reduceEqDiff, Nat.reduceAdd, Nat.reduceMul, Nat.reduceLeDiff, Nat.reduceLT, Nat.reduceBNe, reduceCtorEq]
    refine vload _ (hle _ _ hR) ?_
    simp only [go_sem, ↓reduceIte, Nat.reduceEqDiff, Nat.reduceAdd, Nat.reduceMul, Nat.reduceLeDiff, Nat.reduceLT, Nat.reduceBNe, reduceCtorEq, e5, e0, e1]
    refine ⟨by omega, vat ad' had' ?_⟩
    try simp only [go_sem, ↓reduceIte, Nat.reduceEqDiff, Nat.reduceAdd, Nat.reduceMul, Nat.reduceLeDiff, Nat.reduceLT, Nat.reduceBNe, reduceCtorEq]
    refine vload _ (hle _ _ hR') ?_
    simp only [go_sem, ↓reduceIte, Nat.reduceEqDiff, Nat.reduceAdd, Nat.reduceMul, Nat.reduceLeDiff, Nat.reduceLT, Nat.reduceBNe, reduceCtorEq, e5, e0, e1]
    refine ⟨fun hne => ?_, fun heq => ?_⟩
    · rw [decide_eq_false]; rintro rfl; exact hne rfl
    · refine ⟨_, W.in64 (by omega), i + 1, by omega, by constructor, by omega, ?_⟩
      rw [List.take_succ_eq_append_getElem hlt', List.take_succ_eq_append_getElem (by omega : i < ys.length), hp, heq]
  · obtain rfl : i = xs.length := by omega
    rw [List.take_length, he', List.take_length] at hp
    simp [hp]
end Go.Proofs.Ytpnhiknfcpkfbaa
namespace Go.Proofs.Ytpnhiknfcpkfbaa
set_option linter.unusedSimpArgs false
set_option linter.unusedVariables false
open Go.Proofs.Ytpnhiknfcpkfbaa.Vc
set_option maxRecDepth 8000 in
theorem eSameRuleR (xs ys : List Nd) (v u : Value) (R : RO) (h : RuleV R v xs) (k : RuleV R u ys) : CallsR Try.prog 26 [v, u] R fun _ r => r = .bool (decide (xs = ys)) := by
  obtain ⟨cs, h1, h2, h3, h4⟩ := h
  obtain ⟨ds, k1, k2, k3, k4⟩ := k
  obtain ⟨a, cap, rfl, hc, hf⟩ := SlK.form h1
  obtain ⟨b, cap', rfl, hc', hf'⟩ := SlK.form k1
  refine callsT mix Try.func26 comp26 (by simp [Try.ntmps26]) ?_; simp only [go_sem, ↓reduceIte, Nat.reduceEqDiff, Nat.reduceAdd, Nat.reduceMul, Nat.reduceLeDiff, Nat.reduceLT, Nat.reduceBNe, reduceCtorEq, vc26, rs26]
  refine ⟨fun hne => ?_, fun he => ?_⟩
  · rw [decide_eq_false]; rintro rfl; exact hne (by omega)
  have he' : xs.length = ys.length := by omega
  refine vcLoop Nat (fun i => [(5, .val (.int .i64 i)), (0, .val (.slice a cs.length cap)), (1, .val (.slice b ds.length cap'))]) (fun _ => []) (fun i _ => i ≤ cs.length ∧ xs.take i = ys.take i) (fun i => cs.length - i) 0 ?_ rfl ?_ ?_
  · (try simp only [go_sem, ↓reduceIte, Nat.reduceEqDiff, Nat.reduceAdd, Nat.reduceMul, Nat.reduceLeDiff, Nat.reduceLT, Nat.reduceBNe, reduceCtorEq]) <;> (repeat' (first | rfl | trivial | constructor | (intro h; exact absurd rfl h)))
  · exact ⟨Nat.zero_le _, rfl⟩
  rintro i env R1 hle hE ⟨hi, hp⟩
  (simp only [go_sem] at hE; obtain ⟨e5, e0, e1⟩ := hE; simp only [go_sem, ↓reduceIte, Nat.reduceEqDiff, Nat.reduceAdd, Nat.reduceMul, Nat.reduceLeDiff, Nat.reduceLT, Nat.reduceBNe, reduceCtorEq, e5, e0, e1]; dsimp only at *)
  refine ⟨fun hlt => ⟨hlt, ?_⟩, fun hge => ?_⟩
  · have hlt' : i < cs.length := by omega
    obtain ⟨hl, ad, had, hR⟩ := hf i hlt'
    obtain ⟨hl', ad', had', hR'⟩ := hf' i (by omega)
    have hx := h3 i _ _ (List.getElem?_eq_getElem hlt') (List.getElem?_eq_getElem (by omega))
    have hy := k3 i _ _ (List.getElem?_eq_getElem (by omega : i < ds.length)) (List.getElem?_eq_getElem (by omega : i < ys.length))
    obtain ⟨x, hxe⟩ : ∃ x, x = xs[i]'(by omega) := ⟨_, rfl⟩
    obtain ⟨y, hye⟩ : ∃ y, y = ys[i]'(by omega) := ⟨_, rfl⟩
    rw [← hxe] at hx
    rw [← hye] at hy
    obtain ⟨lv, hcx, hI, hIl⟩ := hx
    obtain ⟨lu, hcy, hI', hIl'⟩ := hy
    have ho : lv.oneCell' = true := by obtain ⟨_, _, rfl, _⟩ := hI.form; rfl
    have ho' : lu.oneCell' = true := by obtain ⟨_, _, rfl, _⟩ := hI'.form; rfl
    rw [hcx] at hR
    rw [hcy] at hR'
    refine vat ad had ?_
    try simp only [go_sem, ↓reduceIte, Nat.reduceEqDiff, Nat.reduceAdd, Nat.reduceMul, Nat.reduceLeDiff, Nat.reduceLT, Nat.reduceBNe, reduceCtorEq]
    refine vloadn (x.cells lv) rfl (fun j u hj => hle _ _ (hR j u hj)) ?_
    simp only [go_sem, ↓reduceIte, Nat.reduceEqDiff, Nat.reduceAdd, Nat.reduceMul, Nat.reduceLeDiff, Nat.reduceLT, Nat.reduceBNe, reduceCtorEq, Nd.cells, e5, e0, e1]
    refine ⟨by omega, vat ad' had' ?_⟩
    try simp only [go_sem, ↓reduceIte, Nat.reduceEqDiff, Nat.reduceAdd, Nat.reduceMul, Nat.reduceLeDiff, Nat.reduceLT, Nat.reduceBNe, reduceCtorEq]
    have hne : x ≠ y → decide (xs = ys) = false := fun h => by
      rw [decide_eq_false]; rintro rfl; exact h (by rw [hxe, hye])
    have hfin : x.list = y.list → x.kind = y.kind → x.cal = y.cal → x.l = y.l → x.r = y.r → x.n = y.n → x.m = y.m → (x.name != y.name) = false →
        ∃ r, W .i64 ((i : Int) + 1) r ∧ ∃ x', cs.length - x' < cs.length - i ∧ SV.val (.int .i64 r) = SV.val (.int .i64 (x' : Int)) ∧ x' ≤ cs.length ∧ List.take x' xs = List.take x' ys := fun q1 q2 q3 q4 q5 q6 q7 q8 => by
      have q9 : x.name = y.name := bytes_eq (by simpa [bne] using q8)
      have heq : x = y := by
        obtain ⟨_, _, _, _, _, _, _, _⟩ := x
        obtain ⟨_, _, _, _, _, _, _, _⟩ := y
        simp only at q1 q2 q3 q4 q5 q6 q7 q9
        subst q1 q2 q3 q4 q5 q6 q7 q9
        rfl
      refine ⟨_, W.in64 (by omega), i + 1, by omega, rfl, by omega, ?_⟩
      rw [List.take_succ_eq_append_getElem (by omega : i < xs.length), List.take_succ_eq_append_getElem (by omega : i < ys.length), hp, ← hxe, ← hye, heq]
    have hld : ∀ {b : List Blk} {kv : Value → Prop} {t : Tok kv}, kv (.agg (y.cells lu).toArray) → LoadPn (allR b R1) (ad'.add (i * 8)) 8 kv t := fun hk => vloadn (y.cells lu) rfl (fun j u hj => hle _ _ (hR' j u hj)) hk
    repeat' (with_reducible first | refine And.intro ?_ ?_ | intro _)
    all_goals (try (refine hld ?_; simp only [go_sem, ↓reduceIte, Nat.reduceEqDiff, Nat.reduceAdd, Nat.reduceMul, Nat.reduceLeDiff, Nat.reduceLT, Nat.reduceBNe, reduceCtorEq, Nd.cells, e5, e0, e1]))
    all_goals repeat' (with_reducible first | refine And.intro ?_ ?_ | intro _)
    all_goals (try (refine hld ?_; simp only [go_sem, ↓reduceIte, Nat.reduceEqDiff, Nat.reduceAdd, Nat.reduceMul, Nat.reduceLeDiff, Nat.reduceLT, Nat.reduceBNe, reduceCtorEq, Nd.cells, e5, e0, e1]))
    all_goals repeat' (with_reducible first | refine And.intro ?_ ?_ | intro _)
    all_goals (try (refine hld ?_; simp only [go_sem, ↓reduceIte, Nat.reduceEqDiff, Nat.reduceAdd, Nat.reduceMul, Nat.reduceLeDiff, Nat.reduceLT, Nat.reduceBNe, reduceCtorEq, Nd.cells, e5, e0, e1]))
    all_goals repeat' (with_reducible first | refine And.intro ?_ ?_ | intro _)
    all_goals (try first | exact ho | exact ho')
    all_goals (refine vcall (eSameInts x.list y.list lv lu R1 (hI.mono hle) (hI'.mono hle) (by omega)) ?_; rintro R2 w h6 rfl; generalize hl : decide (x.list = y.list) = l; simp only [go_sem, ↓reduceIte, Nat.reduceEqDiff, Nat.reduceAdd, Nat.reduceMul, Nat.reduceLeDiff, Nat.reduceLT, Nat.reduceBNe, reduceCtorEq, e5, e0, e1])
    all_goals
      refine ⟨fun g0 => ⟨fun g1 => ⟨fun g2 => ⟨fun g3 => ⟨fun g4 => ⟨fun g5 => ⟨fun g6 => ⟨fun g7 => ?_, fun g7 => ?_⟩, fun g6 => ?_⟩, fun g5 => ?_⟩, fun g4 => ?_⟩, fun g3 => ?_⟩, fun g2 => ?_⟩, fun g1 => ?_⟩, fun g0 => ?_⟩
      · rw [hne (fun e => by rw [e, bne, bytes_beq] at g7; cases g7)]
      · exact hfin (of_decide_eq_true (hl.trans g0)) g1 g2 g3 g4 g5 g6 g7
      · rw [hne (fun e => g6 (by rw [e]))]
      · rw [hne (fun e => g5 (by rw [e]))]
      · rw [hne (fun e => g4 (by rw [e]))]
      · rw [hne (fun e => g3 (by rw [e]))]
      · rw [hne (fun e => g2 (by rw [e]))]
      · rw [hne (fun e => g1 (by rw [e]))]
      · rw [hne (fun e => of_decide_eq_false (hl.trans g0) (by rw [e]))]
  · obtain rfl : i = cs.length := by omega
    rw [h2, List.take_length, he', List.take_length] at hp
    simp [hp]
end Go.Proofs.Ytpnhiknfcpkfbaa
namespace Go.Proofs.Ytpnhiknfcpkfbaa
set_option linter.unusedSimpArgs false
set_option linter.unusedVariables false
open Go.Proofs.Ytpnhiknfcpkfbaa.Vc
theorem eSameR (x y : De) (cx cy : List Value) (R : RO) (hx : EdV R cx x) (hy : EdV R cy y) : CallsR Try.prog 23 [.agg cx.toArray, .agg cy.toArray] R fun _ r => r = .bool (decide (x = y)) := by
  obtain ⟨a, n, c, e, h⟩ := hx
  obtain ⟨a', n', c', e', h'⟩ := hy
  rw [e, e']
  clear e e'
  obtain ⟨kind, day, device, seq, mv, minute, length, rule, zone⟩ := x
  obtain ⟨kind', day', device', seq', mv', minute', length', rule', zone'⟩ := y
  obtain ⟨md, mr, mt, mm, ml⟩ := mv
  obtain ⟨md', mr', mt', mm', ml'⟩ := mv'
  simp only [De.ed, Ed.val] at *
  have hb : (zone == zone') = decide (zone = zone') := by
    by_cases e : zone = zone'
    · subst e
      simp only [decide_true]
      exact bytes_beq zone
    · rw [decide_eq_false e]
      cases hq : (zone == zone') with
      | false => rfl
      | true => exact absurd (bytes_eq hq) e
  refine callsT mix Try.func23 comp23 (by simp [Try.ntmps23]) ?_; simp only [go_sem, ↓reduceIte, Nat.reduceEqDiff, Nat.reduceAdd, Nat.reduceMul, Nat.reduceLeDiff, Nat.reduceLT, Nat.reduceBNe, reduceCtorEq, vc23, rs23]
  refine vcall (eSameRuleR rule rule' _ _ R h h') ?_
  clear h h'
  rintro R1 v h1 rfl
  try simp only [go_sem, ↓reduceIte, Nat.reduceEqDiff, Nat.reduceAdd, Nat.reduceMul, Nat.reduceLeDiff, Nat.reduceLT, Nat.reduceBNe, reduceCtorEq]
  rw [hb]
  clear hb
  simp only [De.mk.injEq, Mv.mk.injEq]
  repeat' (with_reducible first | refine And.intro ?_ ?_ | intro _)
  all_goals simp_all
end Go.Proofs.Ytpnhiknfcpkfbaa
namespace Go.Proofs.Ytpnhiknfcpkfbaa
set_option linter.unusedSimpArgs false
set_option linter.unusedVariables false
open Go.Proofs.Ytpnhiknfcpkfbaa.Vc
theorem eSameList (xs ys : List De) (v u : Value) (R : RO) (h : EdsV R v xs) (k : EdsV R u ys) : CallsR Try.prog 19 [v, u] R fun _ r => r = .bool (decide (xs = ys)) := by
  have hxl : xs.length ≤ 1000000000 := by obtain ⟨_, _, _, _, h⟩ := h; exact h
  obtain ⟨a, cap, rfl, hc, hf⟩ := h.form
  obtain ⟨b, cap', rfl, hc', hf'⟩ := k.form
  refine callsT mix Try.func19 comp19 (by simp [Try.ntmps19]) ?_; simp only [go_sem, ↓reduceIte, Nat.reduceEqDiff, Nat.reduceAdd, Nat.reduceMul, Nat.reduceLeDiff, Nat.reduceLT, Nat.reduceBNe, reduceCtorEq, vc19, rs19]
  refine ⟨fun hne => ?_, fun he => ?_⟩
  · rw [decide_eq_false]; rintro rfl; exact hne (by omega)
  have he' : xs.length = ys.length := by omega
  refine vcLoop Nat (fun i => [(5, .val (.int .i64 i)), (0, .val (.slice a xs.length cap)), (1, .val (.slice b ys.length cap'))]) (fun _ => []) (fun i _ => i ≤ xs.length ∧ xs.take i = ys.take i) (fun i => xs.length - i) 0 ?_ rfl ?_ ?_
  · (try simp only [go_sem, ↓reduceIte, Nat.reduceEqDiff, Nat.reduceAdd, Nat.reduceMul, Nat.reduceLeDiff, Nat.reduceLT, Nat.reduceBNe, reduceCtorEq]) <;> (repeat' (first | rfl | trivial | constructor | (intro h; exact absurd rfl h)))
  · exact ⟨Nat.zero_le _, rfl⟩
  rintro i env R1 hle hE ⟨hi, hp⟩
  (simp only [go_sem] at hE; obtain ⟨e5, e0, e1⟩ := hE; simp only [go_sem, ↓reduceIte, Nat.reduceEqDiff, Nat.reduceAdd, Nat.reduceMul, Nat.reduceLeDiff, Nat.reduceLT, Nat.reduceBNe, reduceCtorEq, e5, e0, e1]; dsimp only at *)
  refine ⟨fun hlt => ⟨hlt, ?_⟩, fun hge => ?_⟩
  · have hlt' : i < xs.length := by omega
    obtain ⟨ad, ra, rn, rc, had, hR, hdr⟩ := hf i hlt'
    obtain ⟨ad', ra', rn', rc', had', hR', hdr'⟩ := hf' i (by omega)
    obtain ⟨x, hxe⟩ : ∃ x, x = xs[i]'(by omega) := ⟨_, rfl⟩
    obtain ⟨y, hye⟩ : ∃ y, y = ys[i]'(by omega) := ⟨_, rfl⟩
    rw [← hxe] at hR hdr
    rw [← hye] at hR' hdr'
    have hS := eSameR x y (x.ed ra rn rc).cells (y.ed ra' rn' rc').cells R1 ⟨ra, rn, rc, rfl, hdr.mono hle⟩ ⟨ra', rn', rc', rfl, hdr'.mono hle⟩
    refine vat ad had ?_
    try simp only [go_sem, ↓reduceIte, Nat.reduceEqDiff, Nat.reduceAdd, Nat.reduceMul, Nat.reduceLeDiff, Nat.reduceLT, Nat.reduceBNe, reduceCtorEq]
    refine vloadn (x.ed ra rn rc).cells rfl (fun j u hj => hle _ _ (hR j u hj)) ?_
    simp only [go_sem, ↓reduceIte, Nat.reduceEqDiff, Nat.reduceAdd, Nat.reduceMul, Nat.reduceLeDiff, Nat.reduceLT, Nat.reduceBNe, reduceCtorEq, e5, e0, e1]
    refine ⟨by omega, vat ad' had' ?_⟩
    try simp only [go_sem, ↓reduceIte, Nat.reduceEqDiff, Nat.reduceAdd, Nat.reduceMul, Nat.reduceLeDiff, Nat.reduceLT, Nat.reduceBNe, reduceCtorEq]
    refine vloadn (y.ed ra' rn' rc').cells rfl (fun j u hj => hle _ _ (hR' j u hj)) ?_
    simp only [go_sem, ↓reduceIte, Nat.reduceEqDiff, Nat.reduceAdd, Nat.reduceMul, Nat.reduceLeDiff, Nat.reduceLT, Nat.reduceBNe, reduceCtorEq, e5, e0, e1]
    refine vcall hS ?_
    rintro R2 w h6 rfl
    simp only [go_sem, ↓reduceIte, Nat.reduceEqDiff, Nat.reduceAdd, Nat.reduceMul, Nat.reduceLeDiff, Nat.reduceLT, Nat.reduceBNe, reduceCtorEq, e5, e0, e1]
    refine ⟨fun hne => ?_, fun heq => ?_⟩
    · rw [decide_eq_false]; rintro rfl; exact hne (by rw [hxe, hye])
    · refine ⟨_, W.in64 (by omega), i + 1, by omega, by constructor, by omega, ?_⟩
      rw [List.take_succ_eq_append_getElem (by omega : i < xs.length), List.take_succ_eq_append_getElem (by omega : i < ys.length), hp, ← hxe, ← hye, heq]
  · obtain rfl : i = xs.length := by omega
    rw [List.take_length, he', List.take_length] at hp
    simp [hp]
end Go.Proofs.Ytpnhiknfcpkfbaa
namespace Go.Proofs.Ytpnhiknfcpkfbaa
set_option linter.unusedSimpArgs false
set_option linter.unusedVariables false
open Go.Proofs.Ytpnhiknfcpkfbaa.Vc
/-- A list of things whose cells are known. -/
def EncV {α : Type} (enc : α → List Value) (k : Nat) (R : RO) (v : Value) (xs : List α) : Prop := SlK R v k (xs.map enc) ∧ xs.length ≤ 1000000000
theorem EncV.mono {α : Type} {enc : α → List Value} {k : Nat} {R R' : RO} {v : Value} {xs : List α} (h : EncV enc k R v xs) (hle : RO.le R R') : EncV enc k R' v xs := ⟨h.1.mono hle, h.2⟩
theorem EncV.form {α : Type} {enc : α → List Value} {k : Nat} {R : RO} {v : Value} {xs : List α} (h : EncV enc k R v xs) : ∃ a cap, v = .slice a xs.length cap ∧ xs.length ≤ cap ∧ ∀ i (hi : i < xs.length), ∃ ad, a = some ad ∧ ∀ j u, (enc xs[i])[j]? = some u → R ((ad.add (i * k)).add j) u := by
  obtain ⟨a, cap, rfl, hc, hf⟩ := SlK.form h.1
  rw [List.length_map] at hc
  refine ⟨a, cap, by rw [List.length_map], hc, fun i hi => ?_⟩
  obtain ⟨_, ad, ha, hR⟩ := hf i (by rw [List.length_map]; exact hi)
  rw [List.getElem_map] at hR
  exact ⟨ad, ha, hR⟩
/-- The record of an edit that was overruled. -/
structure Ov where
  device : Int
  seq : Int
  byDevice : Int
  bySeq : Int
  deriving DecidableEq
def Ov.cells (x : Ov) : List Value := [.int .i64 x.device, .int .i64 x.seq, .int .i64 x.byDevice, .int .i64 x.bySeq]
theorem eSameRecords (xs ys : List Ov) (v u : Value) (R : RO) (h : EncV Ov.cells 4 R v xs) (k : EncV Ov.cells 4 R u ys) : CallsR Try.prog 20 [v, u] R fun _ r => r = .bool (decide (xs = ys)) := by
  have hxl := h.2
  obtain ⟨a, cap, rfl, hc, hf⟩ := h.form
  obtain ⟨b, cap', rfl, hc', hf'⟩ := k.form
  refine callsT mix Try.func20 comp20 (by simp [Try.ntmps20]) ?_; simp only [go_sem, ↓reduceIte, Nat.reduceEqDiff, Nat.reduceAdd, Nat.reduceMul, Nat.reduceLeDiff, Nat.reduceLT, Nat.reduceBNe, reduceCtorEq, vc20, rs20]
  refine ⟨fun hne => ?_, fun he => ?_⟩
  · rw [decide_eq_false]; rintro rfl; exact hne (by omega)
  have he' : xs.length = ys.length := by omega
  refine vcLoop Nat (fun i => [(5, .val (.int .i64 i)), (0, .val (.slice a xs.length cap)), (1, .val (.slice b ys.length cap'))]) (fun _ => []) (fun i _ => i ≤ xs.length ∧ xs.take i = ys.take i) (fun i => xs.length - i) 0 ?_ rfl ?_ ?_
  · (try simp only [go_sem, ↓reduceIte, Nat.reduceEqDiff, Nat.reduceAdd, Nat.reduceMul, Nat.reduceLeDiff, Nat.reduceLT, Nat.reduceBNe, reduceCtorEq]) <;> (repeat' (first | rfl | trivial | constructor | (intro h; exact absurd rfl h)))
  · exact ⟨Nat.zero_le _, rfl⟩
  rintro i env R1 hle hE ⟨hi, hp⟩
  (simp only [go_sem] at hE; obtain ⟨e5, e0, e1⟩ := hE; simp only [go_sem, ↓reduceIte, Nat.reduceEqDiff, Nat.reduceAdd, Nat.reduceMul, Nat.reduceLeDiff, Nat.reduceLT, Nat.reduceBNe, reduceCtorEq, e5, e0, e1]; dsimp only at *)
  refine ⟨fun hlt => ⟨hlt, ?_⟩, fun hge => ?_⟩
  · have hlt' : i < xs.length := by omega
    obtain ⟨ad, had, hR⟩ := hf i hlt'
    obtain ⟨ad', had', hR'⟩ := hf' i (by omega)
    obtain ⟨x, hxe⟩ : ∃ x, x = xs[i]'(by omega) := ⟨_, rfl⟩
    obtain ⟨y, hye⟩ : ∃ y, y = ys[i]'(by omega) := ⟨_, rfl⟩
    rw [← hxe] at hR
    rw [← hye] at hR'
    refine vat ad had ?_
    try simp only [go_sem, ↓reduceIte, Nat.reduceEqDiff, Nat.reduceAdd, Nat.reduceMul, Nat.reduceLeDiff, Nat.reduceLT, Nat.reduceBNe, reduceCtorEq]
    refine vloadn x.cells rfl (fun j u hj => hle _ _ (hR j u hj)) ?_
    simp only [go_sem, ↓reduceIte, Nat.reduceEqDiff, Nat.reduceAdd, Nat.reduceMul, Nat.reduceLeDiff, Nat.reduceLT, Nat.reduceBNe, reduceCtorEq, e5, e0, e1]
    refine ⟨by omega, vat ad' had' ?_⟩
    try simp only [go_sem, ↓reduceIte, Nat.reduceEqDiff, Nat.reduceAdd, Nat.reduceMul, Nat.reduceLeDiff, Nat.reduceLT, Nat.reduceBNe, reduceCtorEq]
    refine vloadn y.cells rfl (fun j u hj => hle _ _ (hR' j u hj)) ?_
    simp only [go_sem, ↓reduceIte, Nat.reduceEqDiff, Nat.reduceAdd, Nat.reduceMul, Nat.reduceLeDiff, Nat.reduceLT, Nat.reduceBNe, reduceCtorEq, Ov.cells, e5, e0, e1]
    have hxy : (x = y) = (x.device = y.device ∧ x.seq = y.seq ∧ x.byDevice = y.byDevice ∧ x.bySeq = y.bySeq) := by
      obtain ⟨_, _, _, _⟩ := x
      obtain ⟨_, _, _, _⟩ := y
      simp
    refine ⟨fun hne => ?_, fun heq => ?_⟩
    · rw [decide_eq_false]; rintro rfl
      have : x = y := by rw [hxe, hye]
      rw [hxy] at this
      simp_all
    · refine ⟨_, W.in64 (by omega), i + 1, by omega, by constructor, by omega, ?_⟩
      rw [List.take_succ_eq_append_getElem (by omega : i < xs.length), List.take_succ_eq_append_getElem (by omega : i < ys.length), hp, ← hxe, ← hye, hxy.mpr (by simpa using heq)]
  · obtain rfl : i = xs.length := by omega
    rw [List.take_length, he', List.take_length] at hp
    simp [hp]
end Go.Proofs.Ytpnhiknfcpkfbaa
namespace Go.Proofs.Ytpnhiknfcpkfbaa
set_option linter.unusedSimpArgs false
set_option linter.unusedVariables false
open Go.Proofs.Ytpnhiknfcpkfbaa.Vc
theorem eSameMoves (xs ys : List Mv) (v u : Value) (R : RO) (h : EncV Mv.cells 5 R v xs) (k : EncV Mv.cells 5 R u ys) : CallsR Try.prog 38 [v, u] R fun _ r => r = .bool (decide (xs = ys)) := by
  have hxl := h.2
  obtain ⟨a, cap, rfl, hc, hf⟩ := h.form
  obtain ⟨b, cap', rfl, hc', hf'⟩ := k.form
  refine callsT mix Try.func38 comp38 (by simp [Try.ntmps38]) ?_; simp only [go_sem, ↓reduceIte, Nat.reduceEqDiff, Nat.reduceAdd, Nat.reduceMul, Nat.reduceLeDiff, Nat.reduceLT, Nat.reduceBNe, reduceCtorEq, vc38, rs38]
  refine ⟨fun hne => ?_, fun he => ?_⟩
  · rw [decide_eq_false]; rintro rfl; exact hne (by omega)
  have he' : xs.length = ys.length := by omega
  refine vcLoop Nat (fun i => [(5, .val (.int .i64 i)), (0, .val (.slice a xs.length cap)), (1, .val (.slice b ys.length cap'))]) (fun _ => []) (fun i _ => i ≤ xs.length ∧ xs.take i = ys.take i) (fun i => xs.length - i) 0 ?_ rfl ?_ ?_
  · (try simp only [go_sem, ↓reduceIte, Nat.reduceEqDiff, Nat.reduceAdd, Nat.reduceMul, Nat.reduceLeDiff, Nat.reduceLT, Nat.reduceBNe, reduceCtorEq]) <;> (repeat' (first | rfl | trivial | constructor | (intro h; exact absurd rfl h)))
  · exact ⟨Nat.zero_le _, rfl⟩
  rintro i env R1 hle hE ⟨hi, hp⟩
  (simp only [go_sem] at hE; obtain ⟨e5, e0, e1⟩ := hE; simp only [go_sem, ↓reduceIte, Nat.reduceEqDiff, Nat.reduceAdd, Nat.reduceMul, Nat.reduceLeDiff, Nat.reduceLT, Nat.reduceBNe, reduceCtorEq, e5, e0, e1]; dsimp only at *)
  refine ⟨fun hlt => ⟨hlt, ?_⟩, fun hge => ?_⟩
  · have hlt' : i < xs.length := by omega
    obtain ⟨ad, had, hR⟩ := hf i hlt'
    obtain ⟨ad', had', hR'⟩ := hf' i (by omega)
    obtain ⟨x, hxe⟩ : ∃ x, x = xs[i]'(by omega) := ⟨_, rfl⟩
    obtain ⟨y, hye⟩ : ∃ y, y = ys[i]'(by omega) := ⟨_, rfl⟩
    rw [← hxe] at hR
    rw [← hye] at hR'
    refine vat ad had ?_
    try simp only [go_sem, ↓reduceIte, Nat.reduceEqDiff, Nat.reduceAdd, Nat.reduceMul, Nat.reduceLeDiff, Nat.reduceLT, Nat.reduceBNe, reduceCtorEq]
    refine vloadn x.cells rfl (fun j u hj => hle _ _ (hR j u hj)) ?_
    simp only [go_sem, ↓reduceIte, Nat.reduceEqDiff, Nat.reduceAdd, Nat.reduceMul, Nat.reduceLeDiff, Nat.reduceLT, Nat.reduceBNe, reduceCtorEq, e5, e0, e1]
    refine ⟨by omega, vat ad' had' ?_⟩
    try simp only [go_sem, ↓reduceIte, Nat.reduceEqDiff, Nat.reduceAdd, Nat.reduceMul, Nat.reduceLeDiff, Nat.reduceLT, Nat.reduceBNe, reduceCtorEq]
    refine vloadn y.cells rfl (fun j u hj => hle _ _ (hR' j u hj)) ?_
    simp only [go_sem, ↓reduceIte, Nat.reduceEqDiff, Nat.reduceAdd, Nat.reduceMul, Nat.reduceLeDiff, Nat.reduceLT, Nat.reduceBNe, reduceCtorEq, Mv.cells, e5, e0, e1]
    have hxy : (x = y) = (x.day = y.day ∧ (x.drop == y.drop) = true ∧ x.toDay = y.toDay ∧ x.minute = y.minute ∧ x.length = y.length) := by
      obtain ⟨_, _, _, _, _⟩ := x
      obtain ⟨_, _, _, _, _⟩ := y
      simp
    refine ⟨fun hne => ?_, fun heq => ?_⟩
    · rw [decide_eq_false]; rintro rfl
      have : x = y := by rw [hxe, hye]
      rw [hxy] at this
      simp_all
    · refine ⟨_, W.in64 (by omega), i + 1, by omega, by constructor, by omega, ?_⟩
      rw [List.take_succ_eq_append_getElem (by omega : i < xs.length), List.take_succ_eq_append_getElem (by omega : i < ys.length), hp, ← hxe, ← hye, hxy.mpr (by simpa using heq)]
  · obtain rfl : i = xs.length := by omega
    rw [List.take_length, he', List.take_length] at hp
    simp [hp]
end Go.Proofs.Ytpnhiknfcpkfbaa
namespace Go.Proofs.Ytpnhiknfcpkfbaa
set_option linter.unusedSimpArgs false
set_option linter.unusedVariables false
open Go.Proofs.Ytpnhiknfcpkfbaa.Vc
/-- What a series says but for its moves. -/
structure Ti where
  rule : List Nd
  minute : Int
  length : Int
  zone : ByteArray
  gap : Int
  fold : Int
  deriving DecidableEq
def Se.ti (s : Se) (rl : List Nd) : Ti := ⟨rl, s.minute, s.length, s.zone, s.gap, s.fold⟩
theorem eSameTimes (s t : Se) (rl rl' : List Nd) (R : RO) (hs : RuleV R s.rule rl) (ht : RuleV R t.rule rl') : CallsR Try.prog 25 [.agg s.cells.toArray, .agg t.cells.toArray] R fun _ r => r = .bool (decide (s.ti rl = t.ti rl')) := by
  obtain ⟨sr, sm, sl, sz, sg, sf, smv⟩ := s
  obtain ⟨tr, tm, tl, tz, tg, tf, tmv⟩ := t
  obtain ⟨ra0, rn0, rc0, e0⟩ := hs.form
  obtain ⟨ra1, rn1, rc1, e1⟩ := ht.form
  dsimp only at e0 e1 hs ht
  subst e0 e1
  simp only [Se.cells, Se.ti]
  have hb : (sz == tz) = decide (sz = tz) := by
    by_cases e : sz = tz
    · subst e
      simp only [decide_true]
      exact bytes_beq sz
    · rw [decide_eq_false e]
      cases hq : (sz == tz) with
      | false => rfl
      | true => exact absurd (bytes_eq hq) e
  refine callsT mix Try.func25 comp25 (by simp [Try.ntmps25]) ?_; simp only [go_sem, ↓reduceIte, Nat.reduceEqDiff, Nat.reduceAdd, Nat.reduceMul, Nat.reduceLeDiff, Nat.reduceLT, Nat.reduceBNe, reduceCtorEq, vc25, rs25]
  refine vcall (eSameRuleR rl rl' _ _ R hs ht) ?_
  clear hs ht
  rintro R1 v h1 rfl
  try simp only [go_sem, ↓reduceIte, Nat.reduceEqDiff, Nat.reduceAdd, Nat.reduceMul, Nat.reduceLeDiff, Nat.reduceLT, Nat.reduceBNe, reduceCtorEq]
  rw [hb]
  clear hb
  simp only [Ti.mk.injEq]
  repeat' (with_reducible first | refine And.intro ?_ ?_ | intro _)
  all_goals simp_all
end Go.Proofs.Ytpnhiknfcpkfbaa
namespace Go.Proofs.Ytpnhiknfcpkfbaa
set_option linter.unusedSimpArgs false
set_option linter.unusedVariables false
open Go.Proofs.Ytpnhiknfcpkfbaa.Vc
def zA : ByteArray := ⟨#[97]⟩
def zB : ByteArray := ⟨#[98]⟩
/-- The edit that the reference makes of any edit. -/
def madeE (e : Ed) : De :=
  { kind := 1 + e.kind % 5
    day := if 1 + e.kind % 5 = 4 then 0 else e.day % 10
    device := e.device % 3
    seq := 1 + e.seq % 8
    mv := if 1 + e.kind % 5 = 1 then (if e.mv.drop then ⟨e.day % 10, true, 0, 0, 0⟩ else ⟨e.day % 10, false, e.mv.toDay % 10, e.mv.minute % 3, 1 + e.mv.length % 3⟩) else ⟨0, false, 0, 0, 0⟩
    minute := if 1 + e.kind % 5 = 2 then e.minute % 3 else 0
    length := if 1 + e.kind % 5 = 2 then 1 + e.length % 2 else 0
    rule := if 1 + e.kind % 5 = 3 then ruleN e.minute else []
    zone := if 1 + e.kind % 5 = 4 then (if e.minute % 2 = 0 then zA else zB) else ⟨#[]⟩ }
theorem RuleV.nil (R : RO) : RuleV R (.slice none 0 0) [] := ⟨[], ⟨none, 0, rfl, Nat.le_refl _, by simp⟩, rfl, by simp, by simp⟩
theorem eMadeEdit (e : Ed) (R : RO) : CallsR Try.prog 12 [e.val] R fun R' v => ∃ cs : List Value, v = .agg cs.toArray ∧ EdV R' cs (madeE e) := by
  simp only [Ed.val]
  refine callsT mix Try.func12 comp12 (by simp [Try.ntmps12]) ?_; simp only [go_sem, ↓reduceIte, Nat.reduceEqDiff, Nat.reduceAdd, Nat.reduceMul, Nat.reduceLeDiff, Nat.reduceLT, Nat.reduceBNe, reduceCtorEq, vc12, rs12]
  refine vcall (eIndex e.kind 5 (by omega) R) ?_
  rintro R1 v h1 rfl
  try simp only [go_sem, ↓reduceIte, Nat.reduceEqDiff, Nat.reduceAdd, Nat.reduceMul, Nat.reduceLeDiff, Nat.reduceLT, Nat.reduceBNe, reduceCtorEq, Int.reduceLE, Int.reduceLT, Int.reduceToNat, Int.cast_ofNat_Int, Int.reduceEq, Int.reduceNe]
  refine ⟨_, W.in64 (by omega), ?_⟩
  try simp only [go_sem, ↓reduceIte, Nat.reduceEqDiff, Nat.reduceAdd, Nat.reduceMul, Nat.reduceLeDiff, Nat.reduceLT, Nat.reduceBNe, reduceCtorEq, Int.reduceLE, Int.reduceLT, Int.reduceToNat, Int.cast_ofNat_Int, Int.reduceEq, Int.reduceNe]
  refine vcall (eIndex e.day 10 (by omega) R1) ?_
  rintro R2 v h2 rfl
  try simp only [go_sem, ↓reduceIte, Nat.reduceEqDiff, Nat.reduceAdd, Nat.reduceMul, Nat.reduceLeDiff, Nat.reduceLT, Nat.reduceBNe, reduceCtorEq, Int.reduceLE, Int.reduceLT, Int.reduceToNat, Int.cast_ofNat_Int, Int.reduceEq, Int.reduceNe]
  refine vcall (eIndex e.device 3 (by omega) R2) ?_
  rintro R3 v h3 rfl
  try simp only [go_sem, ↓reduceIte, Nat.reduceEqDiff, Nat.reduceAdd, Nat.reduceMul, Nat.reduceLeDiff, Nat.reduceLT, Nat.reduceBNe, reduceCtorEq, Int.reduceLE, Int.reduceLT, Int.reduceToNat, Int.cast_ofNat_Int, Int.reduceEq, Int.reduceNe]
  refine vcall (eIndex e.seq 8 (by omega) R3) ?_
  rintro R4 v h4 rfl
  try simp only [go_sem, ↓reduceIte, Nat.reduceEqDiff, Nat.reduceAdd, Nat.reduceMul, Nat.reduceLeDiff, Nat.reduceLT, Nat.reduceBNe, reduceCtorEq, Int.reduceLE, Int.reduceLT, Int.reduceToNat, Int.cast_ofNat_Int, Int.reduceEq, Int.reduceNe]
  refine ⟨_, W.in64 (by omega), ?_⟩
  try simp only [go_sem, ↓reduceIte, Nat.reduceEqDiff, Nat.reduceAdd, Nat.reduceMul, Nat.reduceLeDiff, Nat.reduceLT, Nat.reduceBNe, reduceCtorEq, Int.reduceLE, Int.reduceLT, Int.reduceToNat, Int.cast_ofNat_Int, Int.reduceEq, Int.reduceNe]
  refine ⟨fun k1 => ?_, fun k1 => ⟨fun k2 => ?_, fun k2 => ⟨fun k3 => ?_, fun k3 => ⟨fun k4 => ?_, fun k4 => ?_⟩⟩⟩⟩
  · refine ⟨fun hd => ?_, fun hd => ?_⟩
    · refine vcall (eIndex e.mv.toDay 10 (by omega) R4) ?_
      rintro R5 v h5 rfl
      try simp only [go_sem, ↓reduceIte, Nat.reduceEqDiff, Nat.reduceAdd, Nat.reduceMul, Nat.reduceLeDiff, Nat.reduceLT, Nat.reduceBNe, reduceCtorEq, Int.reduceLE, Int.reduceLT, Int.reduceToNat, Int.cast_ofNat_Int, Int.reduceEq, Int.reduceNe]
      refine vcall (eIndex e.mv.minute 3 (by omega) R5) ?_
      rintro R6 v h6 rfl
      try simp only [go_sem, ↓reduceIte, Nat.reduceEqDiff, Nat.reduceAdd, Nat.reduceMul, Nat.reduceLeDiff, Nat.reduceLT, Nat.reduceBNe, reduceCtorEq, Int.reduceLE, Int.reduceLT, Int.reduceToNat, Int.cast_ofNat_Int, Int.reduceEq, Int.reduceNe]
      refine vcall (eIndex e.mv.length 3 (by omega) R6) ?_
      rintro R7 v h7 rfl
      try simp only [go_sem, ↓reduceIte, Nat.reduceEqDiff, Nat.reduceAdd, Nat.reduceMul, Nat.reduceLeDiff, Nat.reduceLT, Nat.reduceBNe, reduceCtorEq, Int.reduceLE, Int.reduceLT, Int.reduceToNat, Int.cast_ofNat_Int, Int.reduceEq, Int.reduceNe]
      refine ⟨_, W.in64 (by omega), ?_⟩
      try simp only [go_sem, ↓reduceIte, Nat.reduceEqDiff, Nat.reduceAdd, Nat.reduceMul, Nat.reduceLeDiff, Nat.reduceLT, Nat.reduceBNe, reduceCtorEq, Int.reduceLE, Int.reduceLT, Int.reduceToNat, Int.cast_ofNat_Int, Int.reduceEq, Int.reduceNe]
      exact ⟨((madeE e).ed none 0 0).cells, by simp [madeE, De.ed, Ed.cells, k1, hd], none, 0, 0, rfl, by
        have : (madeE e).rule = [] := by simp [madeE, k1]
        rw [this]; exact RuleV.nil _⟩
    · exact ⟨((madeE e).ed none 0 0).cells, by simp [madeE, De.ed, Ed.cells, k1, hd], none, 0, 0, rfl, by
        have : (madeE e).rule = [] := by simp [madeE, k1]
        rw [this]; exact RuleV.nil _⟩
  · refine vcall (eIndex e.minute 3 (by omega) R4) ?_
    rintro R5 v h5 rfl
    try simp only [go_sem, ↓reduceIte, Nat.reduceEqDiff, Nat.reduceAdd, Nat.reduceMul, Nat.reduceLeDiff, Nat.reduceLT, Nat.reduceBNe, reduceCtorEq, Int.reduceLE, Int.reduceLT, Int.reduceToNat, Int.cast_ofNat_Int, Int.reduceEq, Int.reduceNe]
    refine vcall (eIndex e.length 2 (by omega) R5) ?_
    rintro R6 v h6 rfl
    try simp only [go_sem, ↓reduceIte, Nat.reduceEqDiff, Nat.reduceAdd, Nat.reduceMul, Nat.reduceLeDiff, Nat.reduceLT, Nat.reduceBNe, reduceCtorEq, Int.reduceLE, Int.reduceLT, Int.reduceToNat, Int.cast_ofNat_Int, Int.reduceEq, Int.reduceNe]
    refine ⟨_, W.in64 (by omega), ?_⟩
    try simp only [go_sem, ↓reduceIte, Nat.reduceEqDiff, Nat.reduceAdd, Nat.reduceMul, Nat.reduceLeDiff, Nat.reduceLT, Nat.reduceBNe, reduceCtorEq, Int.reduceLE, Int.reduceLT, Int.reduceToNat, Int.cast_ofNat_Int, Int.reduceEq, Int.reduceNe]
    exact ⟨((madeE e).ed none 0 0).cells, by simp [madeE, De.ed, Ed.cells, k2], none, 0, 0, rfl, by
        have : (madeE e).rule = [] := by simp [madeE, k2]
        rw [this]; exact RuleV.nil _⟩
  · refine vcall (eRule e.minute R4) ?_
    intro R5 v h5 hv
    obtain ⟨ra, rn, rc, rfl⟩ := hv.form
    try simp only [go_sem, ↓reduceIte, Nat.reduceEqDiff, Nat.reduceAdd, Nat.reduceMul, Nat.reduceLeDiff, Nat.reduceLT, Nat.reduceBNe, reduceCtorEq, Int.reduceLE, Int.reduceLT, Int.reduceToNat, Int.cast_ofNat_Int, Int.reduceEq, Int.reduceNe]
    exact ⟨((madeE e).ed ra rn rc).cells, by simp [madeE, De.ed, Ed.cells, k3], ra, rn, rc, rfl, by
        have : (madeE e).rule = ruleN e.minute := by simp [madeE, k3]
        rw [this]; exact hv⟩
  · refine vcall (eIndex e.minute 2 (by omega) R4) ?_
    rintro R5 v h5 rfl
    try simp only [go_sem, ↓reduceIte, Nat.reduceEqDiff, Nat.reduceAdd, Nat.reduceMul, Nat.reduceLeDiff, Nat.reduceLT, Nat.reduceBNe, reduceCtorEq, Int.reduceLE, Int.reduceLT, Int.reduceToNat, Int.cast_ofNat_Int, Int.reduceEq, Int.reduceNe]
    have hm := Int.emod_nonneg e.minute (show (2 : Int) ≠ 0 by omega)
    have hm2 := Int.emod_lt_of_pos e.minute (show (0 : Int) < 2 by omega)
    rcases (by omega : e.minute % 2 = 0 ∨ e.minute % 2 = 1) with hz | hz
    · rw [hz]
      try simp only [go_sem, ↓reduceIte, Nat.reduceEqDiff, Nat.reduceAdd, Nat.reduceMul, Nat.reduceLeDiff, Nat.reduceLT, Nat.reduceBNe, reduceCtorEq, Int.reduceLE, Int.reduceLT, Int.reduceToNat, Int.cast_ofNat_Int, Int.reduceEq, Int.reduceNe]
      refine ⟨((madeE e).ed none 0 0).cells, by simp [madeE, De.ed, Ed.cells, k1, k2, k3, k4, hz, zA], none, 0, 0, rfl, by
        have : (madeE e).rule = [] := by simp [madeE, k3]
        rw [this]; exact RuleV.nil _⟩
    · rw [hz]
      try simp only [go_sem, ↓reduceIte, Nat.reduceEqDiff, Nat.reduceAdd, Nat.reduceMul, Nat.reduceLeDiff, Nat.reduceLT, Nat.reduceBNe, reduceCtorEq, Int.reduceLE, Int.reduceLT, Int.reduceToNat, Int.cast_ofNat_Int, Int.reduceEq, Int.reduceNe]
      refine ⟨((madeE e).ed none 0 0).cells, by simp [madeE, De.ed, Ed.cells, k1, k2, k3, k4, hz, zB], none, 0, 0, rfl, by
        have : (madeE e).rule = [] := by simp [madeE, k3]
        rw [this]; exact RuleV.nil _⟩
  · exact ⟨((madeE e).ed none 0 0).cells, by simp [madeE, De.ed, Ed.cells, k1, k2, k3, k4], none, 0, 0, rfl, by
        have : (madeE e).rule = [] := by simp [madeE, k3]
        rw [this]; exact RuleV.nil _⟩
end Go.Proofs.Ytpnhiknfcpkfbaa
