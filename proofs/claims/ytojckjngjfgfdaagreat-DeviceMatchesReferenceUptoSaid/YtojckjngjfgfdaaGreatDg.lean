import Derived.Test.YtojckjngjfgfdaaGreatDc
import Derived.Test.YtojckjngjfgfdaaGreatSu
namespace Go.Proofs.YtojckjngjfgfdaaGreat
set_option linter.unusedSimpArgs false
set_option linter.unusedVariables false
open Go.Proofs.YtojckjngjfgfdaaGreat.Vc
attribute [local go_sem low] inScope_one
/-! ### Package device: merge -/
theorem hbOrder : hasBody Tryz.prog 60 = true := by kernel_rfl
theorem hbSync1 : hasBody Tryz.prog 61 = true := by kernel_rfl
theorem hbLacks1 : hasBody Tryz.prog 65 = true := by kernel_rfl
theorem dLacks1 (x y : Ed) (R : RO) : CallsR Tryz.prog 65 [x.val, y.val] R fun _ _ => True := by
  simp only [Ed.val]
  refine callsT mix Tryz.func65 comp65 (by simp [Tryz.ntmps65]) ?_; simp only [go_sem, ↓reduceIte, Nat.reduceEqDiff, Nat.reduceAdd, Nat.reduceMul, Nat.reduceLeDiff, Nat.reduceLT, Nat.reduceBNe, reduceCtorEq, vc65, rs65]
  done
theorem dSync1 (x y : De) (ra rb : Option Addr) (rn rc rn' rc' : Nat) (ok : Bool) (R : RO) (hx : RuleV R (.slice ra rn rc) x.rule) (hy : RuleV R (.slice rb rn' rc') y.rule) (hk : keyEq x y = true) :
    CallsS Tryz.prog 61 [.val (.agg ((x.ed ra rn rc).cells).toArray), .val (.agg ((y.ed rb rn' rc').cells).toArray), .loc 0 0] [.box [.val (.bool ok)]] R fun R' bs _ => ∃ b1 b2, bs = [.box [.val (.bool (ok && decide (x = y)))], b1, b2] := by
  simp only [Ed.cells, De.ed]
  have hS := fun R' (hle : RO.le R R') => dSame x y ((x.ed ra rn rc).cells) ((y.ed rb rn' rc').cells) R' ⟨ra, rn, rc, rfl, hx.mono hle⟩ ⟨rb, rn', rc', rfl, hy.mono hle⟩ hk
  simp only [Ed.cells, De.ed] at hS
  refine callsTS mix Tryz.func61 comp61 (by simp [Tryz.ntmps61]) rfl rfl ?_; simp only [go_sem, ↓reduceIte, Nat.reduceEqDiff, Nat.reduceAdd, Nat.reduceMul, Nat.reduceLeDiff, Nat.reduceLT, Nat.reduceBNe, reduceCtorEq, vc61, rs61]
  refine ⟨fun hok => ?_, fun hok => ?_⟩
  · refine vcall (hS R (RO.le_refl _)) ?_
    rintro R1 r hle1 rfl
    rw [hok]
    try simp only [go_sem, ↓reduceIte, Nat.reduceEqDiff, Nat.reduceAdd, Nat.reduceMul, Nat.reduceLeDiff, Nat.reduceLT, Nat.reduceBNe, reduceCtorEq]
    exact ⟨_, _, rfl, rfl, rfl⟩
  · rw [hok]
    exact ⟨_, _, rfl, rfl, rfl⟩
/-- What merge hands back. -/
def MrgV (R : RO) (r : Value) (all fresh : List De) : Prop := ∃ u v, r = .tuple #[u, v] ∧ EdsV R u all ∧ EdsV R v fresh
theorem EdsV.tail {R : RO} {a : Option Addr} {c : Nat} {x : De} {l : List De} (h : EdsV R (.slice a (l.length + 1) c) (x :: l)) : EdsV R (.slice (if c = 1 then a else a.map (·.add (1 * 13))) (l.length + 1 - 1) (c - 1)) l := by
  have := EdsV.sub (l := 1) (u := l.length + 1) (ds := x :: l) h (by omega) (by simp)
  simpa using this
theorem mgo_lt {x : De} {xs ys : List De} {k : Nat} (h : ys = [] ∨ ∃ y ys2, ys = y :: ys2 ∧ lessD x y = true) : mgo (k + 1) (x :: xs) ys = (x :: (mgo k xs ys).1, (mgo k xs ys).2.1, (mgo k xs ys).2.2) := by
  rcases h with rfl | ⟨y, ys2, rfl, h⟩
  · rfl
  · rw [mgo, if_pos h]
theorem mgo_gt {y : De} {xs ys : List De} {k : Nat} (h : xs = [] ∨ ∃ x xs2, xs = x :: xs2 ∧ lessD x y = false ∧ lessD y x = true) : mgo (k + 1) xs (y :: ys) = (y :: (mgo k xs ys).1, y :: (mgo k xs ys).2.1, (mgo k xs ys).2.2) := by
  rcases h with rfl | ⟨x, xs2, rfl, h1, h2⟩
  · rfl
  · rw [mgo, if_neg (by rw [h1]; simp), if_pos h2]
theorem mgo_eq {x y : De} {xs ys : List De} {k : Nat} (h1 : lessD x y = false) (h2 : lessD y x = false) : mgo (k + 1) (x :: xs) (y :: ys) = (x :: (mgo k xs ys).1, (mgo k xs ys).2.1, decide (x = y) && (mgo k xs ys).2.2) := by
  rw [mgo, if_neg (by rw [h1]; simp), if_neg (by rw [h2]; simp)]
theorem cmpE_cases (p q : Pl) : (cmpE p.ed q.ed < 0 ∧ lessD p.1 q.1 = true) ∨ (0 < cmpE p.ed q.ed ∧ lessD p.1 q.1 = false ∧ lessD q.1 p.1 = true) ∨ (cmpE p.ed q.ed = 0 ∧ lessD p.1 q.1 = false ∧ lessD q.1 p.1 = false) := by
  have hs : p.ed.seq = p.1.seq ∧ p.ed.device = p.1.device ∧ q.ed.seq = q.1.seq ∧ q.ed.device = q.1.device := ⟨rfl, rfl, rfl, rfl⟩
  obtain ⟨h1, h2, h3, h4⟩ := hs
  simp only [lessD_iff, lessD_false]
  unfold cmpE cmpI
  rw [h1, h2, h3, h4]
  repeat' split
  all_goals omega
set_option maxHeartbeats 8000000 in
theorem dMergeL (xs ys : List De) (va vb : Value) (R : RO) (ha : EdsV R va xs) (hb : EdsV R vb ys) (hla : xs.length ≤ 4096) (hlb : ys.length ≤ 4096) :
    CallsR Tryz.prog 59 [va, vb, .func (.func 60) #[] #[], .func (.func 65) #[] #[]] R fun R' r => MrgV R' r (mgo (xs.length + ys.length) xs ys).1 (mgo (xs.length + ys.length) xs ys).2.1 := by
  obtain ⟨a0, c0, rfl, _⟩ := ha.form
  obtain ⟨b0, d0, rfl, _⟩ := hb.form
  obtain ⟨A, hA⟩ : ∃ A, A = (mgo (xs.length + ys.length) xs ys).1 := ⟨_, rfl⟩
  obtain ⟨F, hF⟩ : ∃ F, F = (mgo (xs.length + ys.length) xs ys).2.1 := ⟨_, rfl⟩
  obtain ⟨G, hG⟩ : ∃ G, G = (mgo (xs.length + ys.length) xs ys).2.2 := ⟨_, rfl⟩
  rw [← hA, ← hF]
  refine callsT mix Tryz.func59 comp59 (by simp [Tryz.ntmps59]) ?_; simp only [go_sem, ↓reduceIte, Nat.reduceEqDiff, Nat.reduceAdd, Nat.reduceMul, Nat.reduceLeDiff, Nat.reduceLT, Nat.reduceBNe, reduceCtorEq, vc59, rs59]
  refine vcLoopR ((Option Addr × Nat × List De) × (Option Addr × Nat × List De) × List Pl × List Pl × Bool) (fun x => [(0, .val (.slice x.1.1 x.1.2.2.length x.1.2.1)), (1, .val (.slice x.2.1.1 x.2.1.2.2.length x.2.1.2.1)), (2, .val (.func (.func 60) #[] #[])), (3, .val (.func (.func 65) #[] #[])), (8, gs 0 x.2.2.1.length), (9, gs 1 x.2.2.2.1.length)])
    (fun x => [gb 31 13 (rowP x.2.2.1), gb 31 13 (rowP x.2.2.2.1)])
    (fun x R => EdsV R (.slice x.1.1 x.1.2.2.length x.1.2.1) x.1.2.2 ∧ EdsV R (.slice x.2.1.1 x.2.1.2.2.length x.2.1.2.1) x.2.1.2.2 ∧ (∀ p ∈ x.2.2.1, PlOK R p) ∧ (∀ p ∈ x.2.2.2.1, PlOK R p) ∧ x.2.2.1.length + x.1.2.2.length + x.2.1.2.2.length ≤ 8192 ∧ x.2.2.2.1.length + x.2.1.2.2.length ≤ 4096 ∧
      ∃ n, x.1.2.2.length + x.2.1.2.2.length ≤ n ∧ x.2.2.1.map (·.1) ++ (mgo n x.1.2.2 x.2.1.2.2).1 = A ∧ x.2.2.2.1.map (·.1) ++ (mgo n x.1.2.2 x.2.1.2.2).2.1 = F ∧ (x.2.2.2.2 && (mgo n x.1.2.2 x.2.1.2.2).2.2) = G) (fun x => x.1.2.2.length + x.2.1.2.2.length) ((a0, c0, xs), (b0, d0, ys), [], [], true) [] ?_ ?_ ?_ ?_
  · (try simp only [go_sem, ↓reduceIte, Nat.reduceEqDiff, Nat.reduceAdd, Nat.reduceMul, Nat.reduceLeDiff, Nat.reduceLT, Nat.reduceBNe, reduceCtorEq]) <;> (repeat' (first | rfl | trivial | constructor | (intro h; exact absurd rfl h)))
  · try simp only [go_sem, ↓reduceIte, Nat.reduceEqDiff, Nat.reduceAdd, Nat.reduceMul, Nat.reduceLeDiff, Nat.reduceLT, Nat.reduceBNe, reduceCtorEq]
  · exact ⟨ha, hb, by simp, by simp, by simp; omega, by simp; omega, _, Nat.le_refl _, by rw [hA]; rfl, by rw [hF]; rfl, by rw [hG]; simp⟩
  rintro ⟨⟨a, c, xs⟩, ⟨b, d, ys⟩, ps, qs, ok⟩ env R1 hle1 hE ⟨ha1, hb1, hpo, hqo, hl1, hl2, n, hn, hgA, hgF, hgG⟩
  clear ha hb hA hF hG hla hlb
  dsimp only at ha1 hb1 hpo hqo hl1 hl2 hn hgA hgF hgG
  simp only [go_sem] at hE
  obtain ⟨e0, e1, e2, e3, e8, e9⟩ := hE
  rw [tCode_seq]
  by_cases hend : xs.length = 0 ∧ ys.length = 0
  · obtain ⟨h1, h2⟩ := hend
    obtain rfl : xs = [] := List.eq_nil_of_length_eq_zero h1
    obtain rfl : ys = [] := List.eq_nil_of_length_eq_zero h2
    have hm : mgo n [] [] = ([], [], true) := by cases n <;> rfl
    rw [hm] at hgA hgF hgG
    simp only [List.append_nil, Bool.and_true] at hgA hgF hgG
    subst hgA hgF hgG
    have hgP : ps.length ≠ 0 → gb 31 13 (rowP ps) = .row 31 13 (rowP ps) := fun h1 => gb_ne (fun e => h1 (by have := rowP_len ps; rw [e] at this; simp at this; omega))
    have hgQ : qs.length ≠ 0 → gb 31 13 (rowP qs) = .row 31 13 (rowP qs) := fun h1 => gb_ne (fun e => h1 (by have := rowP_len qs; rw [e] at this; simp at this; omega))
    have hE0 : ∀ (R' : RO) (l : List Pl), l.length = 0 → EdsV R' (.slice none 0 0) (l.map (·.1)) := fun R' l h => by rw [List.eq_nil_of_length_eq_zero h]; exact EdsV.nil R'
    by_cases h1 : ps.length = 0
    · rw [h1] at e8
      by_cases h2 : qs.length = 0
      · rw [h2] at e9
        try simp only [go_sem, ↓reduceIte, Nat.reduceEqDiff, Nat.reduceAdd, Nat.reduceMul, Nat.reduceLeDiff, Nat.reduceLT, Nat.reduceBNe, reduceCtorEq, Int.reduceLE, Int.reduceLT, Int.reduceToNat, Int.cast_ofNat_Int, Int.reduceEq, Int.reduceNe, e0, e1, e2, e3, e8, e9]
        exact ⟨_, _, rfl, hE0 _ _ h1, hE0 _ _ h2⟩
      · rw [gs_pos h2] at e9
        rw [hgQ h2]
        try simp only [go_sem, ↓reduceIte, Nat.reduceEqDiff, Nat.reduceAdd, Nat.reduceMul, Nat.reduceLeDiff, Nat.reduceLT, Nat.reduceBNe, reduceCtorEq, Int.reduceLE, Int.reduceLT, Int.reduceToNat, Int.cast_ofNat_Int, Int.reduceEq, Int.reduceNe, e0, e1, e2, e3, e8, e9]
        intro b1 cap1 R2 hle2 hrow hcap hfr
        try simp only [go_sem, ↓reduceIte, Nat.reduceEqDiff, Nat.reduceAdd, Nat.reduceMul, Nat.reduceLeDiff, Nat.reduceLT, Nat.reduceBNe, reduceCtorEq, Int.reduceLE, Int.reduceLT, Int.reduceToNat, Int.cast_ofNat_Int, Int.reduceEq, Int.reduceNe, e0, e1, e2, e3, e8, e9]
        exact ⟨_, _, rfl, hE0 _ _ h1, EdsV.row hrow hcap (fun p hp => (hqo p hp).mono hle2) (by omega)⟩
    · rw [gs_pos h1] at e8
      rw [hgP h1]
      by_cases h2 : qs.length = 0
      · rw [h2] at e9
        try simp only [go_sem, ↓reduceIte, Nat.reduceEqDiff, Nat.reduceAdd, Nat.reduceMul, Nat.reduceLeDiff, Nat.reduceLT, Nat.reduceBNe, reduceCtorEq, Int.reduceLE, Int.reduceLT, Int.reduceToNat, Int.cast_ofNat_Int, Int.reduceEq, Int.reduceNe, e0, e1, e2, e3, e8, e9]
        intro b1 cap1 R2 hle2 hrow hcap hfr
        try simp only [go_sem, ↓reduceIte, Nat.reduceEqDiff, Nat.reduceAdd, Nat.reduceMul, Nat.reduceLeDiff, Nat.reduceLT, Nat.reduceBNe, reduceCtorEq, Int.reduceLE, Int.reduceLT, Int.reduceToNat, Int.cast_ofNat_Int, Int.reduceEq, Int.reduceNe, e0, e1, e2, e3, e8, e9]
        exact ⟨_, _, rfl, EdsV.row hrow hcap (fun p hp => (hpo p hp).mono hle2) (by omega), hE0 _ _ h2⟩
      · rw [gs_pos h2] at e9
        rw [hgQ h2]
        try simp only [go_sem, ↓reduceIte, Nat.reduceEqDiff, Nat.reduceAdd, Nat.reduceMul, Nat.reduceLeDiff, Nat.reduceLT, Nat.reduceBNe, reduceCtorEq, Int.reduceLE, Int.reduceLT, Int.reduceToNat, Int.cast_ofNat_Int, Int.reduceEq, Int.reduceNe, e0, e1, e2, e3, e8, e9]
        intro b1 cap1 R2 hle2 hrow hcap hfr
        try simp only [go_sem, ↓reduceIte, Nat.reduceEqDiff, Nat.reduceAdd, Nat.reduceMul, Nat.reduceLeDiff, Nat.reduceLT, Nat.reduceBNe, reduceCtorEq, Int.reduceLE, Int.reduceLT, Int.reduceToNat, Int.cast_ofNat_Int, Int.reduceEq, Int.reduceNe, e0, e1, e2, e3, e8, e9]
        intro b2 cap2 R3 hle3 hrow2 hcap2 hfr2
        try simp only [go_sem, ↓reduceIte, Nat.reduceEqDiff, Nat.reduceAdd, Nat.reduceMul, Nat.reduceLeDiff, Nat.reduceLT, Nat.reduceBNe, reduceCtorEq, Int.reduceLE, Int.reduceLT, Int.reduceToNat, Int.cast_ofNat_Int, Int.reduceEq, Int.reduceNe, e0, e1, e2, e3, e8, e9]
        exact ⟨_, _, rfl, (EdsV.row hrow hcap (fun p hp => (hpo p hp).mono hle2) (by omega)).mono hle3, EdsV.row hrow2 hcap2 (fun p hp => (hqo p hp).mono (RO.le_trans hle2 hle3)) (by omega)⟩
  refine cutT (fun s' => ∃ env, s' = ⟨env, [gb 31 13 (rowP ps), gb 31 13 (rowP qs)], R1⟩ ∧ env 0 = .val (.slice a xs.length c) ∧ env 1 = .val (.slice b ys.length d) ∧ env 2 = .val (.func (.func 60) #[] #[]) ∧ env 3 = .val (.func (.func 65) #[] #[]) ∧ env 8 = gs 0 ps.length ∧ env 9 = gs 1 qs.length) ?_ ?_
  · try simp only [go_sem, ↓reduceIte, Nat.reduceEqDiff, Nat.reduceAdd, Nat.reduceMul, Nat.reduceLeDiff, Nat.reduceLT, Nat.reduceBNe, reduceCtorEq, Int.reduceLE, Int.reduceLT, Int.reduceToNat, Int.cast_ofNat_Int, Int.reduceEq, Int.reduceNe, e0, e1, e2, e3, e8, e9]
    refine ⟨fun h0 => ⟨fun h1 => ⟨_, rfl, e0, e1, e2, e3, e8, e9⟩, fun h1 => absurd ⟨by omega, by omega⟩ hend⟩, fun h0 => ⟨_, rfl, e0, e1, e2, e3, e8, e9⟩⟩
  rintro s' ⟨env, rfl, f0, f1, f2, f3, f8, f9⟩
  clear e0 e1 e2 e3 e8 e9
  rw [tCode_block, tCode_seq]
  refine cutT (fun s' => ∃ env, s' = ⟨env, [gb 31 13 (rowP ps), gb 31 13 (rowP qs)], R1⟩ ∧ env 0 = .val (.slice a xs.length c) ∧ env 1 = .val (.slice b ys.length d) ∧ env 2 = .val (.func (.func 60) #[] #[]) ∧ env 3 = .val (.func (.func 65) #[] #[]) ∧ env 8 = gs 0 ps.length ∧ env 9 = gs 1 qs.length) ?_ ?_
  · try simp only [go_sem, ↓reduceIte, Nat.reduceEqDiff, Nat.reduceAdd, Nat.reduceMul, Nat.reduceLeDiff, Nat.reduceLT, Nat.reduceBNe, reduceCtorEq, Int.reduceLE, Int.reduceLT, Int.reduceToNat, Int.cast_ofNat_Int, Int.reduceEq, Int.reduceNe, f0, f1, f2, f3, f8, f9]
    exact ⟨_, rfl, f0, f1, f2, f3, f8, f9⟩
  rintro s' ⟨env, rfl, f0, f1, f2, f3, f8, f9⟩
  rw [tCode_seq]
  refine cutT (fun s' => ∃ env R2 k, s' = ⟨env, [gb 31 13 (rowP ps), gb 31 13 (rowP qs)], R2⟩ ∧ RO.le R1 R2 ∧ env 0 = .val (.slice a xs.length c) ∧ env 1 = .val (.slice b ys.length d) ∧ env 2 = .val (.func (.func 60) #[] #[]) ∧ env 3 = .val (.func (.func 65) #[] #[]) ∧ env 8 = gs 0 ps.length ∧ env 9 = gs 1 qs.length ∧ env 10 = .val (.int .i64 k) ∧
    ((k < 0 ∧ ∃ x xs2, xs = x :: xs2 ∧ (ys = [] ∨ ∃ y ys2, ys = y :: ys2 ∧ lessD x y = true)) ∨ (0 < k ∧ ∃ y ys2, ys = y :: ys2 ∧ (xs = [] ∨ ∃ x xs2, xs = x :: xs2 ∧ lessD x y = false ∧ lessD y x = true)) ∨
      (k = 0 ∧ ∃ x xs2 y ys2, xs = x :: xs2 ∧ ys = y :: ys2 ∧ lessD x y = false ∧ lessD y x = false))) ?_ ?_
  · by_cases hx : xs.length = 0
    · try simp only [go_sem, ↓reduceIte, Nat.reduceEqDiff, Nat.reduceAdd, Nat.reduceMul, Nat.reduceLeDiff, Nat.reduceLT, Nat.reduceBNe, reduceCtorEq, Int.reduceLE, Int.reduceLT, Int.reduceToNat, Int.cast_ofNat_Int, Int.reduceEq, Int.reduceNe, f0, f1, f2, f3, f8, f9, eq_true (show (xs.length : Int) = 0 by omega)]
      obtain ⟨y, ys2, hy⟩ := List.exists_cons_of_length_pos (show 0 < ys.length by omega)
      exact ⟨_, R1, 1, rfl, RO.le_refl _, f0, f1, f2, f3, f8, f9, rfl, .inr (.inl ⟨by omega, y, ys2, hy, .inl (List.eq_nil_of_length_eq_zero hx)⟩)⟩
    obtain ⟨x, xs2, hxe⟩ := List.exists_cons_of_length_pos (show 0 < xs.length by omega)
    by_cases hy : ys.length = 0
    · try simp only [go_sem, ↓reduceIte, Nat.reduceEqDiff, Nat.reduceAdd, Nat.reduceMul, Nat.reduceLeDiff, Nat.reduceLT, Nat.reduceBNe, reduceCtorEq, Int.reduceLE, Int.reduceLT, Int.reduceToNat, Int.cast_ofNat_Int, Int.reduceEq, Int.reduceNe, f0, f1, f2, f3, f8, f9, eq_false (show ¬ (xs.length : Int) = 0 by omega), eq_true (show (ys.length : Int) = 0 by omega)]
      exact ⟨_, R1, -1, rfl, RO.le_refl _, f0, f1, f2, f3, f8, f9, rfl, .inl ⟨by omega, x, xs2, hxe, .inl (List.eq_nil_of_length_eq_zero hy)⟩⟩
    obtain ⟨y, ys2, hye⟩ := List.exists_cons_of_length_pos (show 0 < ys.length by omega)
    obtain ⟨_, _, ea, _, hfa⟩ := PlOK.of ha1
    simp only [Value.slice.injEq] at ea
    obtain ⟨rfl, _, rfl⟩ := ea
    obtain ⟨_, _, eb, _, hfb⟩ := PlOK.of hb1
    simp only [Value.slice.injEq] at eb
    obtain ⟨rfl, _, rfl⟩ := eb
    obtain ⟨ad, p, had, hp1, hRp, hpok⟩ := hfa 0 (by omega)
    obtain ⟨bd, q, hbd, hq1, hRq, hqok⟩ := hfb 0 (by omega)
    rw [Nat.zero_mul] at hRp hRq
    try simp only [go_sem, ↓reduceIte, Nat.reduceEqDiff, Nat.reduceAdd, Nat.reduceMul, Nat.reduceLeDiff, Nat.reduceLT, Nat.reduceBNe, reduceCtorEq, Int.reduceLE, Int.reduceLT, Int.reduceToNat, Int.cast_ofNat_Int, Int.reduceEq, Int.reduceNe, f0, f1, f2, f3, f8, f9, eq_false (show ¬ (xs.length : Int) = 0 by omega), eq_false (show ¬ (ys.length : Int) = 0 by omega)]
    refine ⟨by omega, vat ad had ?_⟩
    try simp only [go_sem, ↓reduceIte, Nat.reduceEqDiff, Nat.reduceAdd, Nat.reduceMul, Nat.reduceLeDiff, Nat.reduceLT, Nat.reduceBNe, reduceCtorEq, Int.reduceLE, Int.reduceLT, Int.reduceToNat, Int.cast_ofNat_Int, Int.reduceEq, Int.reduceNe, f0, f1, f2, f3, f8, f9]
    refine vloadn p.ed.cells rfl hRp ?_
    try simp only [go_sem, ↓reduceIte, Nat.reduceEqDiff, Nat.reduceAdd, Nat.reduceMul, Nat.reduceLeDiff, Nat.reduceLT, Nat.reduceBNe, reduceCtorEq, Int.reduceLE, Int.reduceLT, Int.reduceToNat, Int.cast_ofNat_Int, Int.reduceEq, Int.reduceNe, f0, f1, f2, f3, f8, f9, Ed.cells, Pl.ed, De.ed]
    refine ⟨by omega, vat bd hbd ?_⟩
    try simp only [go_sem, ↓reduceIte, Nat.reduceEqDiff, Nat.reduceAdd, Nat.reduceMul, Nat.reduceLeDiff, Nat.reduceLT, Nat.reduceBNe, reduceCtorEq, Int.reduceLE, Int.reduceLT, Int.reduceToNat, Int.cast_ofNat_Int, Int.reduceEq, Int.reduceNe, f0, f1, f2, f3, f8, f9]
    refine vloadn q.ed.cells rfl hRq ?_
    try simp only [go_sem, ↓reduceIte, Nat.reduceEqDiff, Nat.reduceAdd, Nat.reduceMul, Nat.reduceLeDiff, Nat.reduceLT, Nat.reduceBNe, reduceCtorEq, Int.reduceLE, Int.reduceLT, Int.reduceToNat, Int.cast_ofNat_Int, Int.reduceEq, Int.reduceNe, f0, f1, f2, f3, f8, f9, Ed.cells, Pl.ed, De.ed]
    refine ⟨hbOrder, vcall (dOrder p.ed q.ed R1) ?_⟩
    rintro R2 v hle2 rfl
    try simp only [go_sem, ↓reduceIte, Nat.reduceEqDiff, Nat.reduceAdd, Nat.reduceMul, Nat.reduceLeDiff, Nat.reduceLT, Nat.reduceBNe, reduceCtorEq, Int.reduceLE, Int.reduceLT, Int.reduceToNat, Int.cast_ofNat_Int, Int.reduceEq, Int.reduceNe, f0, f1, f2, f3, f8, f9]
    have hpx : p.1 = x := by rw [hp1]; simp [hxe]
    have hqy : q.1 = y := by rw [hq1]; simp [hye]
    refine ⟨_, R2, cmpE p.ed q.ed, rfl, hle2, f0, f1, f2, f3, f8, f9, rfl, ?_⟩
    rcases cmpE_cases p q with ⟨h1, h2⟩ | ⟨h1, h2, h3⟩ | ⟨h1, h2, h3⟩
    · exact .inl ⟨h1, x, xs2, hxe, .inr ⟨y, ys2, hye, by rw [← hpx, ← hqy]; exact h2⟩⟩
    · exact .inr (.inl ⟨h1, y, ys2, hye, .inr ⟨x, xs2, hxe, by rw [← hpx, ← hqy]; exact h2, by rw [← hpx, ← hqy]; exact h3⟩⟩)
    · exact .inr (.inr ⟨h1, x, xs2, y, ys2, hxe, hye, by rw [← hpx, ← hqy]; exact h2, by rw [← hpx, ← hqy]; exact h3⟩)
  rintro s' ⟨env, R2, k, rfl, hle2, f0, f1, f2, f3, f8, f9, f10, hk⟩
  obtain ⟨n, rfl⟩ : ∃ n', n = n' + 1 := ⟨n - 1, by omega⟩
  have hca : xs.length ≤ c := by
    obtain ⟨_, _, e, h, _⟩ := ha1.form
    simp only [Value.slice.injEq] at e
    omega
  have hcb : ys.length ≤ d := by
    obtain ⟨_, _, e, h, _⟩ := hb1.form
    simp only [Value.slice.injEq] at e
    omega
  have hpo2 : ∀ p ∈ ps, PlOK R2 p := fun p hp => (hpo p hp).mono hle2
  have hqo2 : ∀ p ∈ qs, PlOK R2 p := fun p hp => (hqo p hp).mono hle2
  have hsnoc : ∀ (l : List Pl) (p : Pl) (R' : RO), (∀ q ∈ l, PlOK R' q) → PlOK R' p → ∀ q ∈ l ++ [p], PlOK R' q := fun l p R' hl hp q hq => by
    rcases List.mem_append.1 hq with hq | hq
    · exact hl q hq
    · simp only [List.mem_cons, List.not_mem_nil, or_false] at hq; subst hq; exact hp
  rcases hk with ⟨hk, x, xs2, rfl, hy⟩ | ⟨hk, y, ys2, rfl, hx⟩ | ⟨hk, x, xs2, y, ys2, rfl, rfl, hl1, hl2⟩
  · rw [mgo_lt hy] at hgA hgF hgG
    obtain ⟨_, _, ea, _, hfa⟩ := PlOK.of ha1
    simp only [Value.slice.injEq] at ea
    obtain ⟨rfl, _, rfl⟩ := ea
    obtain ⟨ad, p, had, hp1, hRp, hpok⟩ := hfa 0 (by simp)
    rw [Nat.zero_mul] at hRp
    simp only [List.getElem_cons_zero] at hp1
    simp only [List.length_cons] at f0 ha1 hca hl1 hn hfa ⊢
    try simp only [go_sem, ↓reduceIte, Nat.reduceEqDiff, Nat.reduceAdd, Nat.reduceMul, Nat.reduceLeDiff, Nat.reduceLT, Nat.reduceBNe, reduceCtorEq, Int.reduceLE, Int.reduceLT, Int.reduceToNat, Int.cast_ofNat_Int, Int.reduceEq, Int.reduceNe, f0, f1, f2, f3, f8, f9, f10, eq_true hk]
    refine ⟨by omega, vat ad had ?_⟩
    try simp only [go_sem, ↓reduceIte, Nat.reduceEqDiff, Nat.reduceAdd, Nat.reduceMul, Nat.reduceLeDiff, Nat.reduceLT, Nat.reduceBNe, reduceCtorEq, Int.reduceLE, Int.reduceLT, Int.reduceToNat, Int.cast_ofNat_Int, Int.reduceEq, Int.reduceNe, f0, f1, f2, f3, f8, f9]
    refine vloadn p.ed.cells rfl (fun j u hj => hle2 _ _ (hRp j u hj)) ?_
    try simp only [go_sem, ↓reduceIte, Nat.reduceEqDiff, Nat.reduceAdd, Nat.reduceMul, Nat.reduceLeDiff, Nat.reduceLT, Nat.reduceBNe, reduceCtorEq, Int.reduceLE, Int.reduceLT, Int.reduceToNat, Int.cast_ofNat_Int, Int.reduceEq, Int.reduceNe, f0, f1, f2, f3, f8, f9, Ed.cells, Pl.ed, De.ed]
    refine ⟨1, xs2.length + 1, rfl, rfl, by omega, by omega, ?_⟩
    try simp only [go_sem, ↓reduceIte, Nat.reduceEqDiff, Nat.reduceAdd, Nat.reduceMul, Nat.reduceLeDiff, Nat.reduceLT, Nat.reduceBNe, reduceCtorEq, Int.reduceLE, Int.reduceLT, Int.reduceToNat, Int.cast_ofNat_Int, Int.reduceEq, Int.reduceNe, f0, f1, f2, f3, f8, f9]
    refine vgrow (rowP ps) (fun h0 => by first | rfl | (rw [gb_ne h0]; rfl)) (fun h0 => by rw [h0, gb_nil]; rfl) (by rw [rowP_len]) (by omega) (by omega) (by omega) ?_
    try simp only [go_sem, ↓reduceIte, Nat.reduceEqDiff, Nat.reduceAdd, Nat.reduceMul, Nat.reduceLeDiff, Nat.reduceLT, Nat.reduceBNe, reduceCtorEq, Int.reduceLE, Int.reduceLT, Int.reduceToNat, Int.cast_ofNat_Int, Int.reduceEq, Int.reduceNe, f0, f1, f2, f3, f8, f9]
    have hta := (EdsV.tail ha1).mono hle2
    refine ⟨((if c = 1 then a else a.map (·.add (1 * 13)), c - 1, xs2), (b, d, ys), ps ++ [p], qs, ok), [3, 1], ?_⟩
    try simp only [go_sem, ↓reduceIte, Nat.reduceEqDiff, Nat.reduceAdd, Nat.reduceMul, Nat.reduceLeDiff, Nat.reduceLT, Nat.reduceBNe, reduceCtorEq]
    exact ⟨by omega, ⟨rfl, fun _ => by rw [rowP_snoc]; rfl, fun h => gb_ne h⟩, by decide, hta, hb1.mono hle2, hsnoc ps p R2 hpo2 (hpok.mono hle2), hqo2, by omega, by omega, n, by omega, by rw [← hgA, List.map_append, List.map_cons, hp1]; simp, hgF, hgG⟩
  · rw [mgo_gt hx] at hgA hgF hgG
    obtain ⟨_, _, eb, _, hfb⟩ := PlOK.of hb1
    simp only [Value.slice.injEq] at eb
    obtain ⟨rfl, _, rfl⟩ := eb
    obtain ⟨bd, q, hbd, hq1, hRq, hqok⟩ := hfb 0 (by simp)
    rw [Nat.zero_mul] at hRq
    simp only [List.getElem_cons_zero] at hq1
    simp only [List.length_cons] at f1 hb1 hcb hl1 hl2 hn hfb ⊢
    have htb := (EdsV.tail hb1).mono hle2
    try simp only [go_sem, ↓reduceIte, Nat.reduceEqDiff, Nat.reduceAdd, Nat.reduceMul, Nat.reduceLeDiff, Nat.reduceLT, Nat.reduceBNe, reduceCtorEq, Int.reduceLE, Int.reduceLT, Int.reduceToNat, Int.cast_ofNat_Int, Int.reduceEq, Int.reduceNe, f0, f1, f2, f3, f8, f9, f10, eq_false (show ¬ k < 0 by omega), eq_true hk]
    refine ⟨by omega, vat bd hbd ?_⟩
    try simp only [go_sem, ↓reduceIte, Nat.reduceEqDiff, Nat.reduceAdd, Nat.reduceMul, Nat.reduceLeDiff, Nat.reduceLT, Nat.reduceBNe, reduceCtorEq, Int.reduceLE, Int.reduceLT, Int.reduceToNat, Int.cast_ofNat_Int, Int.reduceEq, Int.reduceNe, f0, f1, f2, f3, f8, f9]
    refine vloadn q.ed.cells rfl (fun j u hj => hle2 _ _ (hRq j u hj)) ?_
    try simp only [go_sem, ↓reduceIte, Nat.reduceEqDiff, Nat.reduceAdd, Nat.reduceMul, Nat.reduceLeDiff, Nat.reduceLT, Nat.reduceBNe, reduceCtorEq, Int.reduceLE, Int.reduceLT, Int.reduceToNat, Int.cast_ofNat_Int, Int.reduceEq, Int.reduceNe, f0, f1, f2, f3, f8, f9, Ed.cells, Pl.ed, De.ed]
    refine ⟨by omega, vat bd hbd ?_⟩
    try simp only [go_sem, ↓reduceIte, Nat.reduceEqDiff, Nat.reduceAdd, Nat.reduceMul, Nat.reduceLeDiff, Nat.reduceLT, Nat.reduceBNe, reduceCtorEq, Int.reduceLE, Int.reduceLT, Int.reduceToNat, Int.cast_ofNat_Int, Int.reduceEq, Int.reduceNe, f0, f1, f2, f3, f8, f9]
    refine ⟨1, ys2.length + 1, rfl, rfl, by omega, by omega, ?_⟩
    try simp only [go_sem, ↓reduceIte, Nat.reduceEqDiff, Nat.reduceAdd, Nat.reduceMul, Nat.reduceLeDiff, Nat.reduceLT, Nat.reduceBNe, reduceCtorEq, Int.reduceLE, Int.reduceLT, Int.reduceToNat, Int.cast_ofNat_Int, Int.reduceEq, Int.reduceNe, f0, f1, f2, f3, f8, f9]
    repeat' (first
      | refine And.intro ?_ ?_
      | (refine vloadn q.ed.cells rfl (fun j u hj => hle2 _ _ (hRq j u hj)) ?_; try simp only [go_sem, ↓reduceIte, Nat.reduceEqDiff, Nat.reduceAdd, Nat.reduceMul, Nat.reduceLeDiff, Nat.reduceLT, Nat.reduceBNe, reduceCtorEq, Int.reduceLE, Int.reduceLT, Int.reduceToNat, Int.cast_ofNat_Int, Int.reduceEq, Int.reduceNe, f0, f1, f2, f3, f8, f9, Ed.cells, Pl.ed, De.ed])
      | (refine vgrow (rowP ps) (fun h0 => by first | rfl | (rw [gb_ne h0]; rfl)) (fun h0 => by rw [h0, gb_nil]; rfl) (by rw [rowP_len]) (by omega) (by omega) (by omega) ?_; try simp only [go_sem, ↓reduceIte, Nat.reduceEqDiff, Nat.reduceAdd, Nat.reduceMul, Nat.reduceLeDiff, Nat.reduceLT, Nat.reduceBNe, reduceCtorEq, Int.reduceLE, Int.reduceLT, Int.reduceToNat, Int.cast_ofNat_Int, Int.reduceEq, Int.reduceNe, f0, f1, f2, f3, f8, f9])
      | (refine vgrow (rowP qs) (fun h0 => by first | rfl | (rw [gb_ne h0]; rfl)) (fun h0 => by rw [h0, gb_nil]; rfl) (by rw [rowP_len]) (by omega) (by omega) (by omega) ?_; try simp only [go_sem, ↓reduceIte, Nat.reduceEqDiff, Nat.reduceAdd, Nat.reduceMul, Nat.reduceLeDiff, Nat.reduceLT, Nat.reduceBNe, reduceCtorEq, Int.reduceLE, Int.reduceLT, Int.reduceToNat, Int.cast_ofNat_Int, Int.reduceEq, Int.reduceNe, f0, f1, f2, f3, f8, f9]))
    all_goals first
      | (refine ⟨((a, c, xs), (if d = 1 then b else b.map (·.add (1 * 13)), d - 1, ys2), ps ++ [q], qs ++ [q], ok), [3, 5], ?_⟩
         try simp only [go_sem, ↓reduceIte, Nat.reduceEqDiff, Nat.reduceAdd, Nat.reduceMul, Nat.reduceLeDiff, Nat.reduceLT, Nat.reduceBNe, reduceCtorEq]
         exact ⟨by omega, ⟨rfl, fun _ => by rw [rowP_snoc]; rfl, fun _ => by rw [rowP_snoc]; rfl⟩, by decide, ha1.mono hle2, htb, hsnoc ps q R2 hpo2 (hqok.mono hle2), hsnoc qs q R2 hqo2 (hqok.mono hle2), by omega, by omega, n, by omega, by rw [← hgA, List.map_append, List.map_cons, hq1]; simp, by rw [← hgF, List.map_append, List.map_cons, hq1]; simp, hgG⟩)
      | (refine ⟨((a, c, xs), (if d = 1 then b else b.map (·.add (1 * 13)), d - 1, ys2), ps ++ [q], qs ++ [q], ok), [4, 5], ?_⟩
         try simp only [go_sem, ↓reduceIte, Nat.reduceEqDiff, Nat.reduceAdd, Nat.reduceMul, Nat.reduceLeDiff, Nat.reduceLT, Nat.reduceBNe, reduceCtorEq]
         exact ⟨by omega, ⟨rfl, fun _ => by rw [rowP_snoc]; rfl, fun _ => by rw [rowP_snoc]; rfl⟩, by decide, ha1.mono hle2, htb, hsnoc ps q R2 hpo2 (hqok.mono hle2), hsnoc qs q R2 hqo2 (hqok.mono hle2), by omega, by omega, n, by omega, by rw [← hgA, List.map_append, List.map_cons, hq1]; simp, by rw [← hgF, List.map_append, List.map_cons, hq1]; simp, hgG⟩)
  · rw [mgo_eq hl1 hl2] at hgA hgF hgG
    have hkey := lessD_total hl1 hl2
    subst hk
    obtain ⟨_, _, ea, _, hfa⟩ := PlOK.of ha1
    simp only [Value.slice.injEq] at ea
    obtain ⟨rfl, _, rfl⟩ := ea
    obtain ⟨_, _, eb, _, hfb⟩ := PlOK.of hb1
    simp only [Value.slice.injEq] at eb
    obtain ⟨rfl, _, rfl⟩ := eb
    obtain ⟨ad, p, had, hp1, hRp, hpok⟩ := hfa 0 (by simp)
    obtain ⟨bd, q, hbd, hq1, hRq, hqok⟩ := hfb 0 (by simp)
    rw [Nat.zero_mul] at hRp hRq
    simp only [List.getElem_cons_zero] at hp1 hq1
    simp only [List.length_cons] at f0 f1 ha1 hb1 hca hcb hn hfa hfb ⊢
    have hl1' : ps.length + (xs2.length + 1) + (ys2.length + 1) ≤ 8192 := by assumption
    have hl2' : qs.length + (ys2.length + 1) ≤ 4096 := by assumption
    try simp only [go_sem, ↓reduceIte, Nat.reduceEqDiff, Nat.reduceAdd, Nat.reduceMul, Nat.reduceLeDiff, Nat.reduceLT, Nat.reduceBNe, reduceCtorEq, Int.reduceLE, Int.reduceLT, Int.reduceToNat, Int.cast_ofNat_Int, Int.reduceEq, Int.reduceNe, f0, f1, f2, f3, f8, f9, f10, eq_false (show ¬ (0 : Int) < 0 by omega)]
    refine ⟨by omega, vat ad had ?_⟩
    try simp only [go_sem, ↓reduceIte, Nat.reduceEqDiff, Nat.reduceAdd, Nat.reduceMul, Nat.reduceLeDiff, Nat.reduceLT, Nat.reduceBNe, reduceCtorEq, Int.reduceLE, Int.reduceLT, Int.reduceToNat, Int.cast_ofNat_Int, Int.reduceEq, Int.reduceNe, f0, f1, f2, f3, f8, f9]
    refine vloadn p.ed.cells rfl (fun j u hj => hle2 _ _ (hRp j u hj)) ?_
    try simp only [go_sem, ↓reduceIte, Nat.reduceEqDiff, Nat.reduceAdd, Nat.reduceMul, Nat.reduceLeDiff, Nat.reduceLT, Nat.reduceBNe, reduceCtorEq, Int.reduceLE, Int.reduceLT, Int.reduceToNat, Int.cast_ofNat_Int, Int.reduceEq, Int.reduceNe, f0, f1, f2, f3, f8, f9, Ed.cells, Pl.ed, De.ed]
    refine ⟨by omega, vat bd hbd ?_⟩
    try simp only [go_sem, ↓reduceIte, Nat.reduceEqDiff, Nat.reduceAdd, Nat.reduceMul, Nat.reduceLeDiff, Nat.reduceLT, Nat.reduceBNe, reduceCtorEq, Int.reduceLE, Int.reduceLT, Int.reduceToNat, Int.cast_ofNat_Int, Int.reduceEq, Int.reduceNe, f0, f1, f2, f3, f8, f9]
    refine vloadn q.ed.cells rfl (fun j u hj => hle2 _ _ (hRq j u hj)) ?_
    try simp only [go_sem, ↓reduceIte, Nat.reduceEqDiff, Nat.reduceAdd, Nat.reduceMul, Nat.reduceLeDiff, Nat.reduceLT, Nat.reduceBNe, reduceCtorEq, Int.reduceLE, Int.reduceLT, Int.reduceToNat, Int.cast_ofNat_Int, Int.reduceEq, Int.reduceNe, f0, f1, f2, f3, f8, f9, Ed.cells, Pl.ed, De.ed]
    refine ⟨hbLacks1, vcall (dLacks1 p.ed q.ed R2) ?_⟩
    rintro R3 v hle3 _
    try simp only [go_sem, ↓reduceIte, Nat.reduceEqDiff, Nat.reduceAdd, Nat.reduceMul, Nat.reduceLeDiff, Nat.reduceLT, Nat.reduceBNe, reduceCtorEq, Int.reduceLE, Int.reduceLT, Int.reduceToNat, Int.cast_ofNat_Int, Int.reduceEq, Int.reduceNe, f0, f1, f2, f3, f8, f9]
    have hta := (EdsV.tail ha1).mono (RO.le_trans hle2 hle3)
    have htb := (EdsV.tail hb1).mono (RO.le_trans hle2 hle3)
    refine ⟨by omega, vat ad had ?_⟩
    try simp only [go_sem, ↓reduceIte, Nat.reduceEqDiff, Nat.reduceAdd, Nat.reduceMul, Nat.reduceLeDiff, Nat.reduceLT, Nat.reduceBNe, reduceCtorEq, Int.reduceLE, Int.reduceLT, Int.reduceToNat, Int.cast_ofNat_Int, Int.reduceEq, Int.reduceNe, f0, f1, f2, f3, f8, f9]
    refine vloadn p.ed.cells rfl (fun j u hj => hle3 _ _ (hle2 _ _ (hRp j u hj))) ?_
    try simp only [go_sem, ↓reduceIte, Nat.reduceEqDiff, Nat.reduceAdd, Nat.reduceMul, Nat.reduceLeDiff, Nat.reduceLT, Nat.reduceBNe, reduceCtorEq, Int.reduceLE, Int.reduceLT, Int.reduceToNat, Int.cast_ofNat_Int, Int.reduceEq, Int.reduceNe, f0, f1, f2, f3, f8, f9, Ed.cells, Pl.ed, De.ed]
    refine ⟨1, xs2.length + 1, rfl, rfl, by omega, by omega, ?_⟩
    try simp only [go_sem, ↓reduceIte, Nat.reduceEqDiff, Nat.reduceAdd, Nat.reduceMul, Nat.reduceLeDiff, Nat.reduceLT, Nat.reduceBNe, reduceCtorEq, Int.reduceLE, Int.reduceLT, Int.reduceToNat, Int.cast_ofNat_Int, Int.reduceEq, Int.reduceNe, f0, f1, f2, f3, f8, f9]
    refine ⟨1, ys2.length + 1, rfl, rfl, by omega, by omega, ?_⟩
    try simp only [go_sem, ↓reduceIte, Nat.reduceEqDiff, Nat.reduceAdd, Nat.reduceMul, Nat.reduceLeDiff, Nat.reduceLT, Nat.reduceBNe, reduceCtorEq, Int.reduceLE, Int.reduceLT, Int.reduceToNat, Int.cast_ofNat_Int, Int.reduceEq, Int.reduceNe, f0, f1, f2, f3, f8, f9]
    refine vgrow (rowP ps) (fun h0 => by first | rfl | (rw [gb_ne h0]; rfl)) (fun h0 => by rw [h0, gb_nil]; rfl) (by rw [rowP_len]) (by omega) (by omega) (by omega) ?_
    try simp only [go_sem, ↓reduceIte, Nat.reduceEqDiff, Nat.reduceAdd, Nat.reduceMul, Nat.reduceLeDiff, Nat.reduceLT, Nat.reduceBNe, reduceCtorEq, Int.reduceLE, Int.reduceLT, Int.reduceToNat, Int.cast_ofNat_Int, Int.reduceEq, Int.reduceNe, f0, f1, f2, f3, f8, f9]
    refine ⟨((if c = 1 then a else a.map (·.add (1 * 13)), c - 1, xs2), (if d = 1 then b else b.map (·.add (1 * 13)), d - 1, ys2), ps ++ [p], qs, ok && decide (p.1 = q.1)), [3, 1], ?_⟩
    try simp only [go_sem, ↓reduceIte, Nat.reduceEqDiff, Nat.reduceAdd, Nat.reduceMul, Nat.reduceLeDiff, Nat.reduceLT, Nat.reduceBNe, reduceCtorEq]
    exact ⟨by omega, ⟨⟨rfl, rfl⟩, fun _ => by rw [rowP_snoc]; rfl, fun h => gb_ne h⟩, by decide, hta, htb, hsnoc ps p R3 (fun p hp => (hpo2 p hp).mono hle3) (hpok.mono (RO.le_trans hle2 hle3)), fun p hp => (hqo2 p hp).mono hle3, by omega, by omega, n, by omega, by rw [← hgA, List.map_append, List.map_cons, hp1]; simp, hgF, by rw [← hgG, hp1, hq1, Bool.and_assoc]⟩

set_option maxHeartbeats 8000000 in
theorem dMergeS (xs ys : List De) (va vb : Value) (R : RO) (ha : EdsV R va xs) (hb : EdsV R vb ys) (hla : xs.length ≤ 4096) (hlb : ys.length ≤ 4096) :
    CallsS Tryz.prog 59 [.val va, .val vb, .val (.func (.func 60) #[] #[]), .fn 61 [.l 0 0]] [.box [.val (.bool true)]] R fun R' bs r =>
      ∃ rest w, bs = .box [.val (.bool (mgo (xs.length + ys.length) xs ys).2.2)] :: rest ∧ r = .val w ∧ MrgV R' w (mgo (xs.length + ys.length) xs ys).1 (mgo (xs.length + ys.length) xs ys).2.1 := by
  obtain ⟨a0, c0, rfl, _⟩ := ha.form
  obtain ⟨b0, d0, rfl, _⟩ := hb.form
  obtain ⟨A, hA⟩ : ∃ A, A = (mgo (xs.length + ys.length) xs ys).1 := ⟨_, rfl⟩
  obtain ⟨F, hF⟩ : ∃ F, F = (mgo (xs.length + ys.length) xs ys).2.1 := ⟨_, rfl⟩
  obtain ⟨G, hG⟩ : ∃ G, G = (mgo (xs.length + ys.length) xs ys).2.2 := ⟨_, rfl⟩
  rw [← hA, ← hF, ← hG]
  refine callsTS mix Tryz.func59 comp59 (by simp [Tryz.ntmps59]) rfl rfl ?_; simp only [go_sem, ↓reduceIte, Nat.reduceEqDiff, Nat.reduceAdd, Nat.reduceMul, Nat.reduceLeDiff, Nat.reduceLT, Nat.reduceBNe, reduceCtorEq, vc59, rs59]
  refine vcLoopR ((Option Addr × Nat × List De) × (Option Addr × Nat × List De) × List Pl × List Pl × Bool) (fun x => [(0, .val (.slice x.1.1 x.1.2.2.length x.1.2.1)), (1, .val (.slice x.2.1.1 x.2.1.2.2.length x.2.1.2.1)), (2, .val (.func (.func 60) #[] #[])), (3, .fn 61 [.l 0 0]), (8, gs 1 x.2.2.1.length), (9, gs 2 x.2.2.2.1.length)])
    (fun x => [.box [.val (.bool x.2.2.2.2)], gb 31 13 (rowP x.2.2.1), gb 31 13 (rowP x.2.2.2.1)])
    (fun x R => EdsV R (.slice x.1.1 x.1.2.2.length x.1.2.1) x.1.2.2 ∧ EdsV R (.slice x.2.1.1 x.2.1.2.2.length x.2.1.2.1) x.2.1.2.2 ∧ (∀ p ∈ x.2.2.1, PlOK R p) ∧ (∀ p ∈ x.2.2.2.1, PlOK R p) ∧ x.2.2.1.length + x.1.2.2.length + x.2.1.2.2.length ≤ 8192 ∧ x.2.2.2.1.length + x.2.1.2.2.length ≤ 4096 ∧
      ∃ n, x.1.2.2.length + x.2.1.2.2.length ≤ n ∧ x.2.2.1.map (·.1) ++ (mgo n x.1.2.2 x.2.1.2.2).1 = A ∧ x.2.2.2.1.map (·.1) ++ (mgo n x.1.2.2 x.2.1.2.2).2.1 = F ∧ (x.2.2.2.2 && (mgo n x.1.2.2 x.2.1.2.2).2.2) = G) (fun x => x.1.2.2.length + x.2.1.2.2.length) ((a0, c0, xs), (b0, d0, ys), [], [], true) [] ?_ ?_ ?_ ?_
  · (try simp only [go_sem, ↓reduceIte, Nat.reduceEqDiff, Nat.reduceAdd, Nat.reduceMul, Nat.reduceLeDiff, Nat.reduceLT, Nat.reduceBNe, reduceCtorEq]) <;> (repeat' (first | rfl | trivial | constructor | (intro h; exact absurd rfl h)))
  · rfl
  · exact ⟨ha, hb, by simp, by simp, by simp; omega, by simp; omega, _, Nat.le_refl _, by rw [hA]; rfl, by rw [hF]; rfl, by rw [hG]; simp⟩
  rintro ⟨⟨a, c, xs⟩, ⟨b, d, ys⟩, ps, qs, ok⟩ env R1 hle1 hE ⟨ha1, hb1, hpo, hqo, hl1, hl2, n, hn, hgA, hgF, hgG⟩
  clear ha hb hA hF hG hla hlb
  dsimp only at ha1 hb1 hpo hqo hl1 hl2 hn hgA hgF hgG
  simp only [go_sem] at hE
  obtain ⟨e0, e1, e2, e3, e8, e9⟩ := hE
  rw [tCode_seq]
  by_cases hend : xs.length = 0 ∧ ys.length = 0
  · obtain ⟨h1, h2⟩ := hend
    obtain rfl : xs = [] := List.eq_nil_of_length_eq_zero h1
    obtain rfl : ys = [] := List.eq_nil_of_length_eq_zero h2
    have hm : mgo n [] [] = ([], [], true) := by cases n <;> rfl
    rw [hm] at hgA hgF hgG
    simp only [List.append_nil, Bool.and_true] at hgA hgF hgG
    subst hgA hgF hgG
    have hgP : ps.length ≠ 0 → gb 31 13 (rowP ps) = .row 31 13 (rowP ps) := fun h1 => gb_ne (fun e => h1 (by have := rowP_len ps; rw [e] at this; simp at this; omega))
    have hgQ : qs.length ≠ 0 → gb 31 13 (rowP qs) = .row 31 13 (rowP qs) := fun h1 => gb_ne (fun e => h1 (by have := rowP_len qs; rw [e] at this; simp at this; omega))
    have hE0 : ∀ (R' : RO) (l : List Pl), l.length = 0 → EdsV R' (.slice none 0 0) (l.map (·.1)) := fun R' l h => by rw [List.eq_nil_of_length_eq_zero h]; exact EdsV.nil R'
    by_cases h1 : ps.length = 0
    · rw [h1] at e8
      by_cases h2 : qs.length = 0
      · rw [h2] at e9
        try simp only [go_sem, ↓reduceIte, Nat.reduceEqDiff, Nat.reduceAdd, Nat.reduceMul, Nat.reduceLeDiff, Nat.reduceLT, Nat.reduceBNe, reduceCtorEq, Int.reduceLE, Int.reduceLT, Int.reduceToNat, Int.cast_ofNat_Int, Int.reduceEq, Int.reduceNe, e0, e1, e2, e3, e8, e9]
        exact ⟨_, _, ⟨rfl, rfl⟩, rfl, _, _, rfl, hE0 _ _ h1, hE0 _ _ h2⟩
      · rw [gs_pos h2] at e9
        rw [hgQ h2]
        try simp only [go_sem, ↓reduceIte, Nat.reduceEqDiff, Nat.reduceAdd, Nat.reduceMul, Nat.reduceLeDiff, Nat.reduceLT, Nat.reduceBNe, reduceCtorEq, Int.reduceLE, Int.reduceLT, Int.reduceToNat, Int.cast_ofNat_Int, Int.reduceEq, Int.reduceNe, e0, e1, e2, e3, e8, e9]
        intro b1 cap1 R2 hle2 hrow hcap hfr
        try simp only [go_sem, ↓reduceIte, Nat.reduceEqDiff, Nat.reduceAdd, Nat.reduceMul, Nat.reduceLeDiff, Nat.reduceLT, Nat.reduceBNe, reduceCtorEq, Int.reduceLE, Int.reduceLT, Int.reduceToNat, Int.cast_ofNat_Int, Int.reduceEq, Int.reduceNe, e0, e1, e2, e3, e8, e9]
        exact ⟨_, _, ⟨rfl, rfl⟩, rfl, _, _, rfl, hE0 _ _ h1, EdsV.row hrow hcap (fun p hp => (hqo p hp).mono hle2) (by omega)⟩
    · rw [gs_pos h1] at e8
      rw [hgP h1]
      by_cases h2 : qs.length = 0
      · rw [h2] at e9
        try simp only [go_sem, ↓reduceIte, Nat.reduceEqDiff, Nat.reduceAdd, Nat.reduceMul, Nat.reduceLeDiff, Nat.reduceLT, Nat.reduceBNe, reduceCtorEq, Int.reduceLE, Int.reduceLT, Int.reduceToNat, Int.cast_ofNat_Int, Int.reduceEq, Int.reduceNe, e0, e1, e2, e3, e8, e9]
        intro b1 cap1 R2 hle2 hrow hcap hfr
        try simp only [go_sem, ↓reduceIte, Nat.reduceEqDiff, Nat.reduceAdd, Nat.reduceMul, Nat.reduceLeDiff, Nat.reduceLT, Nat.reduceBNe, reduceCtorEq, Int.reduceLE, Int.reduceLT, Int.reduceToNat, Int.cast_ofNat_Int, Int.reduceEq, Int.reduceNe, e0, e1, e2, e3, e8, e9]
        exact ⟨_, _, ⟨rfl, rfl⟩, rfl, _, _, rfl, EdsV.row hrow hcap (fun p hp => (hpo p hp).mono hle2) (by omega), hE0 _ _ h2⟩
      · rw [gs_pos h2] at e9
        rw [hgQ h2]
        try simp only [go_sem, ↓reduceIte, Nat.reduceEqDiff, Nat.reduceAdd, Nat.reduceMul, Nat.reduceLeDiff, Nat.reduceLT, Nat.reduceBNe, reduceCtorEq, Int.reduceLE, Int.reduceLT, Int.reduceToNat, Int.cast_ofNat_Int, Int.reduceEq, Int.reduceNe, e0, e1, e2, e3, e8, e9]
        intro b1 cap1 R2 hle2 hrow hcap hfr
        try simp only [go_sem, ↓reduceIte, Nat.reduceEqDiff, Nat.reduceAdd, Nat.reduceMul, Nat.reduceLeDiff, Nat.reduceLT, Nat.reduceBNe, reduceCtorEq, Int.reduceLE, Int.reduceLT, Int.reduceToNat, Int.cast_ofNat_Int, Int.reduceEq, Int.reduceNe, e0, e1, e2, e3, e8, e9]
        intro b2 cap2 R3 hle3 hrow2 hcap2 hfr2
        try simp only [go_sem, ↓reduceIte, Nat.reduceEqDiff, Nat.reduceAdd, Nat.reduceMul, Nat.reduceLeDiff, Nat.reduceLT, Nat.reduceBNe, reduceCtorEq, Int.reduceLE, Int.reduceLT, Int.reduceToNat, Int.cast_ofNat_Int, Int.reduceEq, Int.reduceNe, e0, e1, e2, e3, e8, e9]
        exact ⟨_, _, ⟨rfl, rfl⟩, rfl, _, _, rfl, (EdsV.row hrow hcap (fun p hp => (hpo p hp).mono hle2) (by omega)).mono hle3, EdsV.row hrow2 hcap2 (fun p hp => (hqo p hp).mono (RO.le_trans hle2 hle3)) (by omega)⟩
  refine cutT (fun s' => ∃ env, s' = ⟨env, [.box [.val (.bool ok)], gb 31 13 (rowP ps), gb 31 13 (rowP qs)], R1⟩ ∧ env 0 = .val (.slice a xs.length c) ∧ env 1 = .val (.slice b ys.length d) ∧ env 2 = .val (.func (.func 60) #[] #[]) ∧ env 3 = .fn 61 [.l 0 0] ∧ env 8 = gs 1 ps.length ∧ env 9 = gs 2 qs.length) ?_ ?_
  · try simp only [go_sem, ↓reduceIte, Nat.reduceEqDiff, Nat.reduceAdd, Nat.reduceMul, Nat.reduceLeDiff, Nat.reduceLT, Nat.reduceBNe, reduceCtorEq, Int.reduceLE, Int.reduceLT, Int.reduceToNat, Int.cast_ofNat_Int, Int.reduceEq, Int.reduceNe, e0, e1, e2, e3, e8, e9]
    refine ⟨fun h0 => ⟨fun h1 => ⟨_, rfl, e0, e1, e2, e3, e8, e9⟩, fun h1 => absurd ⟨by omega, by omega⟩ hend⟩, fun h0 => ⟨_, rfl, e0, e1, e2, e3, e8, e9⟩⟩
  rintro s' ⟨env, rfl, f0, f1, f2, f3, f8, f9⟩
  clear e0 e1 e2 e3 e8 e9
  rw [tCode_block, tCode_seq]
  refine cutT (fun s' => ∃ env, s' = ⟨env, [.box [.val (.bool ok)], gb 31 13 (rowP ps), gb 31 13 (rowP qs)], R1⟩ ∧ env 0 = .val (.slice a xs.length c) ∧ env 1 = .val (.slice b ys.length d) ∧ env 2 = .val (.func (.func 60) #[] #[]) ∧ env 3 = .fn 61 [.l 0 0] ∧ env 8 = gs 1 ps.length ∧ env 9 = gs 2 qs.length) ?_ ?_
  · try simp only [go_sem, ↓reduceIte, Nat.reduceEqDiff, Nat.reduceAdd, Nat.reduceMul, Nat.reduceLeDiff, Nat.reduceLT, Nat.reduceBNe, reduceCtorEq, Int.reduceLE, Int.reduceLT, Int.reduceToNat, Int.cast_ofNat_Int, Int.reduceEq, Int.reduceNe, f0, f1, f2, f3, f8, f9]
    exact ⟨_, rfl, f0, f1, f2, f3, f8, f9⟩
  rintro s' ⟨env, rfl, f0, f1, f2, f3, f8, f9⟩
  rw [tCode_seq]
  refine cutT (fun s' => ∃ env R2 k, s' = ⟨env, [.box [.val (.bool ok)], gb 31 13 (rowP ps), gb 31 13 (rowP qs)], R2⟩ ∧ RO.le R1 R2 ∧ env 0 = .val (.slice a xs.length c) ∧ env 1 = .val (.slice b ys.length d) ∧ env 2 = .val (.func (.func 60) #[] #[]) ∧ env 3 = .fn 61 [.l 0 0] ∧ env 8 = gs 1 ps.length ∧ env 9 = gs 2 qs.length ∧ env 10 = .val (.int .i64 k) ∧
    ((k < 0 ∧ ∃ x xs2, xs = x :: xs2 ∧ (ys = [] ∨ ∃ y ys2, ys = y :: ys2 ∧ lessD x y = true)) ∨ (0 < k ∧ ∃ y ys2, ys = y :: ys2 ∧ (xs = [] ∨ ∃ x xs2, xs = x :: xs2 ∧ lessD x y = false ∧ lessD y x = true)) ∨
      (k = 0 ∧ ∃ x xs2 y ys2, xs = x :: xs2 ∧ ys = y :: ys2 ∧ lessD x y = false ∧ lessD y x = false))) ?_ ?_
  · by_cases hx : xs.length = 0
    · try simp only [go_sem, ↓reduceIte, Nat.reduceEqDiff, Nat.reduceAdd, Nat.reduceMul, Nat.reduceLeDiff, Nat.reduceLT, Nat.reduceBNe, reduceCtorEq, Int.reduceLE, Int.reduceLT, Int.reduceToNat, Int.cast_ofNat_Int, Int.reduceEq, Int.reduceNe, f0, f1, f2, f3, f8, f9, eq_true (show (xs.length : Int) = 0 by omega)]
      obtain ⟨y, ys2, hy⟩ := List.exists_cons_of_length_pos (show 0 < ys.length by omega)
      exact ⟨_, R1, 1, rfl, RO.le_refl _, f0, f1, f2, f3, f8, f9, rfl, .inr (.inl ⟨by omega, y, ys2, hy, .inl (List.eq_nil_of_length_eq_zero hx)⟩)⟩
    obtain ⟨x, xs2, hxe⟩ := List.exists_cons_of_length_pos (show 0 < xs.length by omega)
    by_cases hy : ys.length = 0
    · try simp only [go_sem, ↓reduceIte, Nat.reduceEqDiff, Nat.reduceAdd, Nat.reduceMul, Nat.reduceLeDiff, Nat.reduceLT, Nat.reduceBNe, reduceCtorEq, Int.reduceLE, Int.reduceLT, Int.reduceToNat, Int.cast_ofNat_Int, Int.reduceEq, Int.reduceNe, f0, f1, f2, f3, f8, f9, eq_false (show ¬ (xs.length : Int) = 0 by omega), eq_true (show (ys.length : Int) = 0 by omega)]
      exact ⟨_, R1, -1, rfl, RO.le_refl _, f0, f1, f2, f3, f8, f9, rfl, .inl ⟨by omega, x, xs2, hxe, .inl (List.eq_nil_of_length_eq_zero hy)⟩⟩
    obtain ⟨y, ys2, hye⟩ := List.exists_cons_of_length_pos (show 0 < ys.length by omega)
    obtain ⟨_, _, ea, _, hfa⟩ := PlOK.of ha1
    simp only [Value.slice.injEq] at ea
    obtain ⟨rfl, _, rfl⟩ := ea
    obtain ⟨_, _, eb, _, hfb⟩ := PlOK.of hb1
    simp only [Value.slice.injEq] at eb
    obtain ⟨rfl, _, rfl⟩ := eb
    obtain ⟨ad, p, had, hp1, hRp, hpok⟩ := hfa 0 (by omega)
    obtain ⟨bd, q, hbd, hq1, hRq, hqok⟩ := hfb 0 (by omega)
    rw [Nat.zero_mul] at hRp hRq
    try simp only [go_sem, ↓reduceIte, Nat.reduceEqDiff, Nat.reduceAdd, Nat.reduceMul, Nat.reduceLeDiff, Nat.reduceLT, Nat.reduceBNe, reduceCtorEq, Int.reduceLE, Int.reduceLT, Int.reduceToNat, Int.cast_ofNat_Int, Int.reduceEq, Int.reduceNe, f0, f1, f2, f3, f8, f9, eq_false (show ¬ (xs.length : Int) = 0 by omega), eq_false (show ¬ (ys.length : Int) = 0 by omega)]
    refine ⟨by omega, vat ad had ?_⟩
    try simp only [go_sem, ↓reduceIte, Nat.reduceEqDiff, Nat.reduceAdd, Nat.reduceMul, Nat.reduceLeDiff, Nat.reduceLT, Nat.reduceBNe, reduceCtorEq, Int.reduceLE, Int.reduceLT, Int.reduceToNat, Int.cast_ofNat_Int, Int.reduceEq, Int.reduceNe, f0, f1, f2, f3, f8, f9]
    refine vloadn p.ed.cells rfl hRp ?_
    try simp only [go_sem, ↓reduceIte, Nat.reduceEqDiff, Nat.reduceAdd, Nat.reduceMul, Nat.reduceLeDiff, Nat.reduceLT, Nat.reduceBNe, reduceCtorEq, Int.reduceLE, Int.reduceLT, Int.reduceToNat, Int.cast_ofNat_Int, Int.reduceEq, Int.reduceNe, f0, f1, f2, f3, f8, f9, Ed.cells, Pl.ed, De.ed]
    refine ⟨by omega, vat bd hbd ?_⟩
    try simp only [go_sem, ↓reduceIte, Nat.reduceEqDiff, Nat.reduceAdd, Nat.reduceMul, Nat.reduceLeDiff, Nat.reduceLT, Nat.reduceBNe, reduceCtorEq, Int.reduceLE, Int.reduceLT, Int.reduceToNat, Int.cast_ofNat_Int, Int.reduceEq, Int.reduceNe, f0, f1, f2, f3, f8, f9]
    refine vloadn q.ed.cells rfl hRq ?_
    try simp only [go_sem, ↓reduceIte, Nat.reduceEqDiff, Nat.reduceAdd, Nat.reduceMul, Nat.reduceLeDiff, Nat.reduceLT, Nat.reduceBNe, reduceCtorEq, Int.reduceLE, Int.reduceLT, Int.reduceToNat, Int.cast_ofNat_Int, Int.reduceEq, Int.reduceNe, f0, f1, f2, f3, f8, f9, Ed.cells, Pl.ed, De.ed]
    refine ⟨hbOrder, vcall (dOrder p.ed q.ed R1) ?_⟩
    rintro R2 v hle2 rfl
    try simp only [go_sem, ↓reduceIte, Nat.reduceEqDiff, Nat.reduceAdd, Nat.reduceMul, Nat.reduceLeDiff, Nat.reduceLT, Nat.reduceBNe, reduceCtorEq, Int.reduceLE, Int.reduceLT, Int.reduceToNat, Int.cast_ofNat_Int, Int.reduceEq, Int.reduceNe, f0, f1, f2, f3, f8, f9]
    have hpx : p.1 = x := by rw [hp1]; simp [hxe]
    have hqy : q.1 = y := by rw [hq1]; simp [hye]
    refine ⟨_, R2, cmpE p.ed q.ed, rfl, hle2, f0, f1, f2, f3, f8, f9, rfl, ?_⟩
    rcases cmpE_cases p q with ⟨h1, h2⟩ | ⟨h1, h2, h3⟩ | ⟨h1, h2, h3⟩
    · exact .inl ⟨h1, x, xs2, hxe, .inr ⟨y, ys2, hye, by rw [← hpx, ← hqy]; exact h2⟩⟩
    · exact .inr (.inl ⟨h1, y, ys2, hye, .inr ⟨x, xs2, hxe, by rw [← hpx, ← hqy]; exact h2, by rw [← hpx, ← hqy]; exact h3⟩⟩)
    · exact .inr (.inr ⟨h1, x, xs2, y, ys2, hxe, hye, by rw [← hpx, ← hqy]; exact h2, by rw [← hpx, ← hqy]; exact h3⟩)
  rintro s' ⟨env, R2, k, rfl, hle2, f0, f1, f2, f3, f8, f9, f10, hk⟩
  obtain ⟨n, rfl⟩ : ∃ n', n = n' + 1 := ⟨n - 1, by omega⟩
  have hca : xs.length ≤ c := by
    obtain ⟨_, _, e, h, _⟩ := ha1.form
    simp only [Value.slice.injEq] at e
    omega
  have hcb : ys.length ≤ d := by
    obtain ⟨_, _, e, h, _⟩ := hb1.form
    simp only [Value.slice.injEq] at e
    omega
  have hpo2 : ∀ p ∈ ps, PlOK R2 p := fun p hp => (hpo p hp).mono hle2
  have hqo2 : ∀ p ∈ qs, PlOK R2 p := fun p hp => (hqo p hp).mono hle2
  have hsnoc : ∀ (l : List Pl) (p : Pl) (R' : RO), (∀ q ∈ l, PlOK R' q) → PlOK R' p → ∀ q ∈ l ++ [p], PlOK R' q := fun l p R' hl hp q hq => by
    rcases List.mem_append.1 hq with hq | hq
    · exact hl q hq
    · simp only [List.mem_cons, List.not_mem_nil, or_false] at hq; subst hq; exact hp
  rcases hk with ⟨hk, x, xs2, rfl, hy⟩ | ⟨hk, y, ys2, rfl, hx⟩ | ⟨hk, x, xs2, y, ys2, rfl, rfl, hl1, hl2⟩
  · rw [mgo_lt hy] at hgA hgF hgG
    obtain ⟨_, _, ea, _, hfa⟩ := PlOK.of ha1
    simp only [Value.slice.injEq] at ea
    obtain ⟨rfl, _, rfl⟩ := ea
    obtain ⟨ad, p, had, hp1, hRp, hpok⟩ := hfa 0 (by simp)
    rw [Nat.zero_mul] at hRp
    simp only [List.getElem_cons_zero] at hp1
    simp only [List.length_cons] at f0 ha1 hca hl1 hn hfa ⊢
    try simp only [go_sem, ↓reduceIte, Nat.reduceEqDiff, Nat.reduceAdd, Nat.reduceMul, Nat.reduceLeDiff, Nat.reduceLT, Nat.reduceBNe, reduceCtorEq, Int.reduceLE, Int.reduceLT, Int.reduceToNat, Int.cast_ofNat_Int, Int.reduceEq, Int.reduceNe, f0, f1, f2, f3, f8, f9, f10, eq_true hk]
    refine ⟨by omega, vat ad had ?_⟩
    try simp only [go_sem, ↓reduceIte, Nat.reduceEqDiff, Nat.reduceAdd, Nat.reduceMul, Nat.reduceLeDiff, Nat.reduceLT, Nat.reduceBNe, reduceCtorEq, Int.reduceLE, Int.reduceLT, Int.reduceToNat, Int.cast_ofNat_Int, Int.reduceEq, Int.reduceNe, f0, f1, f2, f3, f8, f9]
    refine vloadn p.ed.cells rfl (fun j u hj => hle2 _ _ (hRp j u hj)) ?_
    try simp only [go_sem, ↓reduceIte, Nat.reduceEqDiff, Nat.reduceAdd, Nat.reduceMul, Nat.reduceLeDiff, Nat.reduceLT, Nat.reduceBNe, reduceCtorEq, Int.reduceLE, Int.reduceLT, Int.reduceToNat, Int.cast_ofNat_Int, Int.reduceEq, Int.reduceNe, f0, f1, f2, f3, f8, f9, Ed.cells, Pl.ed, De.ed]
    refine ⟨1, xs2.length + 1, rfl, rfl, by omega, by omega, ?_⟩
    try simp only [go_sem, ↓reduceIte, Nat.reduceEqDiff, Nat.reduceAdd, Nat.reduceMul, Nat.reduceLeDiff, Nat.reduceLT, Nat.reduceBNe, reduceCtorEq, Int.reduceLE, Int.reduceLT, Int.reduceToNat, Int.cast_ofNat_Int, Int.reduceEq, Int.reduceNe, f0, f1, f2, f3, f8, f9]
    refine vgrow (rowP ps) (fun h0 => by first | rfl | (rw [gb_ne h0]; rfl)) (fun h0 => by rw [h0, gb_nil]; rfl) (by rw [rowP_len]) (by omega) (by omega) (by omega) ?_
    try simp only [go_sem, ↓reduceIte, Nat.reduceEqDiff, Nat.reduceAdd, Nat.reduceMul, Nat.reduceLeDiff, Nat.reduceLT, Nat.reduceBNe, reduceCtorEq, Int.reduceLE, Int.reduceLT, Int.reduceToNat, Int.cast_ofNat_Int, Int.reduceEq, Int.reduceNe, f0, f1, f2, f3, f8, f9]
    have hta := (EdsV.tail ha1).mono hle2
    refine ⟨((if c = 1 then a else a.map (·.add (1 * 13)), c - 1, xs2), (b, d, ys), ps ++ [p], qs, ok), [0, 4, 2], ?_⟩
    try simp only [go_sem, ↓reduceIte, Nat.reduceEqDiff, Nat.reduceAdd, Nat.reduceMul, Nat.reduceLeDiff, Nat.reduceLT, Nat.reduceBNe, reduceCtorEq]
    exact ⟨by omega, ⟨⟨rfl, rfl⟩, fun _ => by rw [rowP_snoc]; rfl, fun h => gb_ne h⟩, ⟨by decide, rfl⟩, hta, hb1.mono hle2, hsnoc ps p R2 hpo2 (hpok.mono hle2), hqo2, by omega, by omega, n, by omega, by rw [← hgA, List.map_append, List.map_cons, hp1]; simp, hgF, hgG⟩
  · rw [mgo_gt hx] at hgA hgF hgG
    obtain ⟨_, _, eb, _, hfb⟩ := PlOK.of hb1
    simp only [Value.slice.injEq] at eb
    obtain ⟨rfl, _, rfl⟩ := eb
    obtain ⟨bd, q, hbd, hq1, hRq, hqok⟩ := hfb 0 (by simp)
    rw [Nat.zero_mul] at hRq
    simp only [List.getElem_cons_zero] at hq1
    simp only [List.length_cons] at f1 hb1 hcb hl1 hl2 hn hfb ⊢
    have htb := (EdsV.tail hb1).mono hle2
    try simp only [go_sem, ↓reduceIte, Nat.reduceEqDiff, Nat.reduceAdd, Nat.reduceMul, Nat.reduceLeDiff, Nat.reduceLT, Nat.reduceBNe, reduceCtorEq, Int.reduceLE, Int.reduceLT, Int.reduceToNat, Int.cast_ofNat_Int, Int.reduceEq, Int.reduceNe, f0, f1, f2, f3, f8, f9, f10, eq_false (show ¬ k < 0 by omega), eq_true hk]
    refine ⟨by omega, vat bd hbd ?_⟩
    try simp only [go_sem, ↓reduceIte, Nat.reduceEqDiff, Nat.reduceAdd, Nat.reduceMul, Nat.reduceLeDiff, Nat.reduceLT, Nat.reduceBNe, reduceCtorEq, Int.reduceLE, Int.reduceLT, Int.reduceToNat, Int.cast_ofNat_Int, Int.reduceEq, Int.reduceNe, f0, f1, f2, f3, f8, f9]
    refine vloadn q.ed.cells rfl (fun j u hj => hle2 _ _ (hRq j u hj)) ?_
    try simp only [go_sem, ↓reduceIte, Nat.reduceEqDiff, Nat.reduceAdd, Nat.reduceMul, Nat.reduceLeDiff, Nat.reduceLT, Nat.reduceBNe, reduceCtorEq, Int.reduceLE, Int.reduceLT, Int.reduceToNat, Int.cast_ofNat_Int, Int.reduceEq, Int.reduceNe, f0, f1, f2, f3, f8, f9, Ed.cells, Pl.ed, De.ed]
    refine ⟨by omega, vat bd hbd ?_⟩
    try simp only [go_sem, ↓reduceIte, Nat.reduceEqDiff, Nat.reduceAdd, Nat.reduceMul, Nat.reduceLeDiff, Nat.reduceLT, Nat.reduceBNe, reduceCtorEq, Int.reduceLE, Int.reduceLT, Int.reduceToNat, Int.cast_ofNat_Int, Int.reduceEq, Int.reduceNe, f0, f1, f2, f3, f8, f9]
    refine ⟨1, ys2.length + 1, rfl, rfl, by omega, by omega, ?_⟩
    try simp only [go_sem, ↓reduceIte, Nat.reduceEqDiff, Nat.reduceAdd, Nat.reduceMul, Nat.reduceLeDiff, Nat.reduceLT, Nat.reduceBNe, reduceCtorEq, Int.reduceLE, Int.reduceLT, Int.reduceToNat, Int.cast_ofNat_Int, Int.reduceEq, Int.reduceNe, f0, f1, f2, f3, f8, f9]
    repeat' (first
      | refine And.intro ?_ ?_
      | (refine vloadn q.ed.cells rfl (fun j u hj => hle2 _ _ (hRq j u hj)) ?_; try simp only [go_sem, ↓reduceIte, Nat.reduceEqDiff, Nat.reduceAdd, Nat.reduceMul, Nat.reduceLeDiff, Nat.reduceLT, Nat.reduceBNe, reduceCtorEq, Int.reduceLE, Int.reduceLT, Int.reduceToNat, Int.cast_ofNat_Int, Int.reduceEq, Int.reduceNe, f0, f1, f2, f3, f8, f9, Ed.cells, Pl.ed, De.ed])
      | (refine vgrow (rowP ps) (fun h0 => by first | rfl | (rw [gb_ne h0]; rfl)) (fun h0 => by rw [h0, gb_nil]; rfl) (by rw [rowP_len]) (by omega) (by omega) (by omega) ?_; try simp only [go_sem, ↓reduceIte, Nat.reduceEqDiff, Nat.reduceAdd, Nat.reduceMul, Nat.reduceLeDiff, Nat.reduceLT, Nat.reduceBNe, reduceCtorEq, Int.reduceLE, Int.reduceLT, Int.reduceToNat, Int.cast_ofNat_Int, Int.reduceEq, Int.reduceNe, f0, f1, f2, f3, f8, f9])
      | (refine vgrow (rowP qs) (fun h0 => by first | rfl | (rw [gb_ne h0]; rfl)) (fun h0 => by rw [h0, gb_nil]; rfl) (by rw [rowP_len]) (by omega) (by omega) (by omega) ?_; try simp only [go_sem, ↓reduceIte, Nat.reduceEqDiff, Nat.reduceAdd, Nat.reduceMul, Nat.reduceLeDiff, Nat.reduceLT, Nat.reduceBNe, reduceCtorEq, Int.reduceLE, Int.reduceLT, Int.reduceToNat, Int.cast_ofNat_Int, Int.reduceEq, Int.reduceNe, f0, f1, f2, f3, f8, f9]))
    all_goals first
      | (refine ⟨((a, c, xs), (if d = 1 then b else b.map (·.add (1 * 13)), d - 1, ys2), ps ++ [q], qs ++ [q], ok), [0, 4, 6], ?_⟩
         try simp only [go_sem, ↓reduceIte, Nat.reduceEqDiff, Nat.reduceAdd, Nat.reduceMul, Nat.reduceLeDiff, Nat.reduceLT, Nat.reduceBNe, reduceCtorEq]
         exact ⟨by omega, ⟨⟨rfl, rfl⟩, fun _ => by rw [rowP_snoc]; rfl, fun _ => by rw [rowP_snoc]; rfl⟩, ⟨by decide, rfl⟩, ha1.mono hle2, htb, hsnoc ps q R2 hpo2 (hqok.mono hle2), hsnoc qs q R2 hqo2 (hqok.mono hle2), by omega, by omega, n, by omega, by rw [← hgA, List.map_append, List.map_cons, hq1]; simp, by rw [← hgF, List.map_append, List.map_cons, hq1]; simp, hgG⟩)
      | (refine ⟨((a, c, xs), (if d = 1 then b else b.map (·.add (1 * 13)), d - 1, ys2), ps ++ [q], qs ++ [q], ok), [0, 5, 6], ?_⟩
         try simp only [go_sem, ↓reduceIte, Nat.reduceEqDiff, Nat.reduceAdd, Nat.reduceMul, Nat.reduceLeDiff, Nat.reduceLT, Nat.reduceBNe, reduceCtorEq]
         exact ⟨by omega, ⟨⟨rfl, rfl⟩, fun _ => by rw [rowP_snoc]; rfl, fun _ => by rw [rowP_snoc]; rfl⟩, ⟨by decide, rfl⟩, ha1.mono hle2, htb, hsnoc ps q R2 hpo2 (hqok.mono hle2), hsnoc qs q R2 hqo2 (hqok.mono hle2), by omega, by omega, n, by omega, by rw [← hgA, List.map_append, List.map_cons, hq1]; simp, by rw [← hgF, List.map_append, List.map_cons, hq1]; simp, hgG⟩)
  · rw [mgo_eq hl1 hl2] at hgA hgF hgG
    have hkey := lessD_total hl1 hl2
    subst hk
    obtain ⟨_, _, ea, _, hfa⟩ := PlOK.of ha1
    simp only [Value.slice.injEq] at ea
    obtain ⟨rfl, _, rfl⟩ := ea
    obtain ⟨_, _, eb, _, hfb⟩ := PlOK.of hb1
    simp only [Value.slice.injEq] at eb
    obtain ⟨rfl, _, rfl⟩ := eb
    obtain ⟨ad, p, had, hp1, hRp, hpok⟩ := hfa 0 (by simp)
    obtain ⟨bd, q, hbd, hq1, hRq, hqok⟩ := hfb 0 (by simp)
    rw [Nat.zero_mul] at hRp hRq
    simp only [List.getElem_cons_zero] at hp1 hq1
    simp only [List.length_cons] at f0 f1 ha1 hb1 hca hcb hn hfa hfb ⊢
    have hl1' : ps.length + (xs2.length + 1) + (ys2.length + 1) ≤ 8192 := by assumption
    have hl2' : qs.length + (ys2.length + 1) ≤ 4096 := by assumption
    try simp only [go_sem, ↓reduceIte, Nat.reduceEqDiff, Nat.reduceAdd, Nat.reduceMul, Nat.reduceLeDiff, Nat.reduceLT, Nat.reduceBNe, reduceCtorEq, Int.reduceLE, Int.reduceLT, Int.reduceToNat, Int.cast_ofNat_Int, Int.reduceEq, Int.reduceNe, f0, f1, f2, f3, f8, f9, f10, eq_false (show ¬ (0 : Int) < 0 by omega)]
    refine ⟨by omega, vat ad had ?_⟩
    try simp only [go_sem, ↓reduceIte, Nat.reduceEqDiff, Nat.reduceAdd, Nat.reduceMul, Nat.reduceLeDiff, Nat.reduceLT, Nat.reduceBNe, reduceCtorEq, Int.reduceLE, Int.reduceLT, Int.reduceToNat, Int.cast_ofNat_Int, Int.reduceEq, Int.reduceNe, f0, f1, f2, f3, f8, f9]
    refine vloadn p.ed.cells rfl (fun j u hj => hle2 _ _ (hRp j u hj)) ?_
    try simp only [go_sem, ↓reduceIte, Nat.reduceEqDiff, Nat.reduceAdd, Nat.reduceMul, Nat.reduceLeDiff, Nat.reduceLT, Nat.reduceBNe, reduceCtorEq, Int.reduceLE, Int.reduceLT, Int.reduceToNat, Int.cast_ofNat_Int, Int.reduceEq, Int.reduceNe, f0, f1, f2, f3, f8, f9, Ed.cells, Pl.ed, De.ed]
    refine ⟨by omega, vat bd hbd ?_⟩
    try simp only [go_sem, ↓reduceIte, Nat.reduceEqDiff, Nat.reduceAdd, Nat.reduceMul, Nat.reduceLeDiff, Nat.reduceLT, Nat.reduceBNe, reduceCtorEq, Int.reduceLE, Int.reduceLT, Int.reduceToNat, Int.cast_ofNat_Int, Int.reduceEq, Int.reduceNe, f0, f1, f2, f3, f8, f9]
    refine vloadn q.ed.cells rfl (fun j u hj => hle2 _ _ (hRq j u hj)) ?_
    try simp only [go_sem, ↓reduceIte, Nat.reduceEqDiff, Nat.reduceAdd, Nat.reduceMul, Nat.reduceLeDiff, Nat.reduceLT, Nat.reduceBNe, reduceCtorEq, Int.reduceLE, Int.reduceLT, Int.reduceToNat, Int.cast_ofNat_Int, Int.reduceEq, Int.reduceNe, f0, f1, f2, f3, f8, f9, Ed.cells, Pl.ed, De.ed]
    refine ⟨hbSync1, vhandT [0] [.val (.agg ((p.1.ed p.2.1 p.2.2.1 p.2.2.2).cells).toArray), .val (.agg ((q.1.ed q.2.1 q.2.2.1 q.2.2.2).cells).toArray), .loc 0 0] [.box [.val (.bool ok)]] (dSync1 p.1 q.1 p.2.1 q.2.1 p.2.2.1 p.2.2.2 q.2.2.1 q.2.2.2 ok R2 (hpok.mono hle2) (hqok.mono hle2) (by rw [hp1, hq1]; exact hkey)) rfl rfl rfl ?_ (by simp) rfl rfl ?_⟩
    · try simp only [go_sem, ↓reduceIte, Nat.reduceEqDiff, Nat.reduceAdd, Nat.reduceMul, Nat.reduceLeDiff, Nat.reduceLT, Nat.reduceBNe, reduceCtorEq]
    rintro R3 bs r hle3 ⟨b1, b2, rfl⟩ _
    try simp only [go_sem, ↓reduceIte, Nat.reduceEqDiff, Nat.reduceAdd, Nat.reduceMul, Nat.reduceLeDiff, Nat.reduceLT, Nat.reduceBNe, reduceCtorEq, Int.reduceLE, Int.reduceLT, Int.reduceToNat, Int.cast_ofNat_Int, Int.reduceEq, Int.reduceNe, f0, f1, f2, f3, f8, f9, setG, rn]
    have hta := (EdsV.tail ha1).mono (RO.le_trans hle2 hle3)
    have htb := (EdsV.tail hb1).mono (RO.le_trans hle2 hle3)
    refine ⟨by omega, vat ad had ?_⟩
    try simp only [go_sem, ↓reduceIte, Nat.reduceEqDiff, Nat.reduceAdd, Nat.reduceMul, Nat.reduceLeDiff, Nat.reduceLT, Nat.reduceBNe, reduceCtorEq, Int.reduceLE, Int.reduceLT, Int.reduceToNat, Int.cast_ofNat_Int, Int.reduceEq, Int.reduceNe, f0, f1, f2, f3, f8, f9]
    refine vloadn p.ed.cells rfl (fun j u hj => hle3 _ _ (hle2 _ _ (hRp j u hj))) ?_
    try simp only [go_sem, ↓reduceIte, Nat.reduceEqDiff, Nat.reduceAdd, Nat.reduceMul, Nat.reduceLeDiff, Nat.reduceLT, Nat.reduceBNe, reduceCtorEq, Int.reduceLE, Int.reduceLT, Int.reduceToNat, Int.cast_ofNat_Int, Int.reduceEq, Int.reduceNe, f0, f1, f2, f3, f8, f9, Ed.cells, Pl.ed, De.ed]
    refine ⟨1, xs2.length + 1, rfl, rfl, by omega, by omega, ?_⟩
    try simp only [go_sem, ↓reduceIte, Nat.reduceEqDiff, Nat.reduceAdd, Nat.reduceMul, Nat.reduceLeDiff, Nat.reduceLT, Nat.reduceBNe, reduceCtorEq, Int.reduceLE, Int.reduceLT, Int.reduceToNat, Int.cast_ofNat_Int, Int.reduceEq, Int.reduceNe, f0, f1, f2, f3, f8, f9]
    refine ⟨1, ys2.length + 1, rfl, rfl, by omega, by omega, ?_⟩
    try simp only [go_sem, ↓reduceIte, Nat.reduceEqDiff, Nat.reduceAdd, Nat.reduceMul, Nat.reduceLeDiff, Nat.reduceLT, Nat.reduceBNe, reduceCtorEq, Int.reduceLE, Int.reduceLT, Int.reduceToNat, Int.cast_ofNat_Int, Int.reduceEq, Int.reduceNe, f0, f1, f2, f3, f8, f9]
    refine vgrow (rowP ps) (fun h0 => by first | rfl | (rw [gb_ne h0]; rfl)) (fun h0 => by rw [h0, gb_nil]; rfl) (by rw [rowP_len]) (by omega) (by omega) (by omega) ?_
    try simp only [go_sem, ↓reduceIte, Nat.reduceEqDiff, Nat.reduceAdd, Nat.reduceMul, Nat.reduceLeDiff, Nat.reduceLT, Nat.reduceBNe, reduceCtorEq, Int.reduceLE, Int.reduceLT, Int.reduceToNat, Int.cast_ofNat_Int, Int.reduceEq, Int.reduceNe, f0, f1, f2, f3, f8, f9]
    refine ⟨((if c = 1 then a else a.map (·.add (1 * 13)), c - 1, xs2), (if d = 1 then b else b.map (·.add (1 * 13)), d - 1, ys2), ps ++ [p], qs, ok && decide (p.1 = q.1)), [0, 6, 2], ?_⟩
    try simp only [go_sem, ↓reduceIte, Nat.reduceEqDiff, Nat.reduceAdd, Nat.reduceMul, Nat.reduceLeDiff, Nat.reduceLT, Nat.reduceBNe, reduceCtorEq]
    exact ⟨by omega, ⟨⟨rfl, rfl, rfl⟩, rfl, fun _ => by rw [rowP_snoc]; rfl, fun h => by rw [gb_ne h]⟩, ⟨by decide, rfl⟩, hta, htb, hsnoc ps p R3 (fun p hp => (hpo2 p hp).mono hle3) (hpok.mono (RO.le_trans hle2 hle3)), fun p hp => (hqo2 p hp).mono hle3, by omega, by omega, n, by omega, by rw [← hgA, List.map_append, List.map_cons, hp1]; simp, hgF, by rw [← hgG, hp1, hq1, Bool.and_assoc]⟩

end Go.Proofs.YtojckjngjfgfdaaGreat
namespace Go.Proofs.YtojckjngjfgfdaaGreat
set_option linter.unusedSimpArgs false
set_option linter.unusedVariables false
open Go.Proofs.YtojckjngjfgfdaaGreat.Vc
/-! ### Package device: Sync, Lacks -/
theorem nextD_le (n : Int) (l : List De) : n ≤ nextD n l := by
  unfold nextD
  induction l generalizing n with
  | nil => exact Int.le_refl _
  | cons e l ih =>
    rw [List.foldl_cons]
    exact Int.le_trans (by omega) (ih _)
theorem nextD_snoc (n : Int) (l : List De) (e : De) : nextD n (l ++ [e]) = max (nextD n l) (e.seq / 64 + 1) := by unfold nextD; rw [List.foldl_append]; rfl
theorem validV_all {d : Dv} (h : validV d = true) : (∀ e ∈ d.edits, validD e = true ∧ e.seq / 64 < d.next) ∧ SortedD d.edits := by
  unfold validV at h
  simp only [Bool.and_eq_true, decide_eq_true_eq, List.all_eq_true] at h
  exact ⟨fun e he => (okEd_iff _ _).1 (h.1.2 e he), h.2⟩
/-- The two devices in boxes: h and o. -/
def SyncQ (d o : Dv) (dv ov : Value) (R : RO) (s : St) : Prop :=
  ∃ env, env 2 = .loc 0 0 ∧ env 3 = .loc 1 0 ∧ env 4 = .loc 2 0 ∧
    ((s = ⟨env, [.box [.val (.int .i64 d.id), .val (.int .i64 d.epoch), .val (.int .i64 d.next), .val dv], .box [.val (.int .i64 o.id), .val (.int .i64 o.epoch), .val (.int .i64 o.next), .val ov], .box [.val (.int .i64 0), .val (.int .i64 0), .val (.int .i64 0), .val (.slice none 0 0)],
      .box [.val (.int .i64 d.id), .val (.int .i64 d.epoch), .val (.int .i64 d.next), .val dv], .box [.val (.int .i64 o.id), .val (.int .i64 o.epoch), .val (.int .i64 o.next), .val ov]], R⟩ ∧ env 6 = .loc 3 0 ∧ env 7 = .loc 4 0) ∨
     (s = ⟨env, [.box [.val (.int .i64 d.id), .val (.int .i64 d.epoch), .val (.int .i64 d.next), .val dv], .box [.val (.int .i64 o.id), .val (.int .i64 o.epoch), .val (.int .i64 o.next), .val ov], .box [.val (.int .i64 0), .val (.int .i64 0), .val (.int .i64 0), .val (.slice none 0 0)],
      .box [.val (.int .i64 o.id), .val (.int .i64 o.epoch), .val (.int .i64 o.next), .val ov], .box [.val (.int .i64 d.id), .val (.int .i64 d.epoch), .val (.int .i64 d.next), .val dv]], R⟩ ∧ env 6 = .loc 4 0 ∧ env 7 = .loc 3 0))
set_option maxHeartbeats 4000000 in
theorem dSync (d o : Dv) (dv ov : Value) (R : RO) (h : EdsV R dv d.edits) (k : EdsV R ov o.edits) : CallsR Tryz.prog 19 [.agg (dvCells d dv).toArray, .agg (dvCells o ov).toArray] R fun R' r => DvR R' r (dvSync d o) := by
  have hV := fun R' (hle : RO.le R R') => dValid d dv R' (h.mono hle)
  have hVo := fun R' (hle : RO.le R R') => dValid o ov R' (k.mono hle)
  have h0 := h
  have k0 := k
  obtain ⟨a, cap, rfl, hc, hf⟩ := h.form
  obtain ⟨b, cap', rfl, hc', hf'⟩ := k.form
  simp only [dvCells] at hV hVo ⊢
  refine callsT mix Tryz.func19 comp19 (by simp [Tryz.ntmps19]) ?_; simp only [vc19, rs19]
  (refine cutR ?_ ?_ ?_; rotate_left; (try simp only [go_sem, ↓reduceIte, Nat.reduceEqDiff, Nat.reduceAdd, Nat.reduceMul, Nat.reduceLeDiff, Nat.reduceLT, Nat.reduceBNe, reduceCtorEq, true_and]; rfl))
  rw [tCode_seq]
  refine cutT (SyncQ d o (.slice a d.edits.length cap) (.slice b o.edits.length cap') R) ?_ ?_
  · try simp only [go_sem, ↓reduceIte, Nat.reduceEqDiff, Nat.reduceAdd, Nat.reduceMul, Nat.reduceLeDiff, Nat.reduceLT, Nat.reduceBNe, reduceCtorEq]
    repeat' (with_reducible first | refine And.intro ?_ ?_ | intro _)
    all_goals unfold SyncQ
    all_goals first
      | exact ⟨_, rfl, rfl, rfl, .inl ⟨rfl, rfl, rfl⟩⟩
      | exact ⟨_, rfl, rfl, rfl, .inr ⟨rfl, rfl, rfl⟩⟩
  rintro s' ⟨env, e2, e3, e4, hst⟩
  rcases hst with ⟨rfl, e6, e7⟩ | ⟨rfl, e6, e7⟩
  · try simp only [go_sem, ↓reduceIte, Nat.reduceEqDiff, Nat.reduceAdd, Nat.reduceMul, Nat.reduceLeDiff, Nat.reduceLT, Nat.reduceBNe, reduceCtorEq, e2, e3, e4, e6, e7]
    refine vcall (hV R (RO.le_refl _)) ?_
    rintro R1 r hle1 rfl
    unfold dvSync
    cases hv : validV d with
    | false =>
      try simp only [go_sem, ↓reduceIte, Nat.reduceEqDiff, Nat.reduceAdd, Nat.reduceMul, Nat.reduceLeDiff, Nat.reduceLT, Nat.reduceBNe, reduceCtorEq, e2, e3, e4, e6, e7]
      rw [if_neg (by simp)]
      exact rfl
    | true =>
    try simp only [go_sem, ↓reduceIte, Nat.reduceEqDiff, Nat.reduceAdd, Nat.reduceMul, Nat.reduceLeDiff, Nat.reduceLT, Nat.reduceBNe, reduceCtorEq, e2, e3, e4, e6, e7]
    refine vcall (hVo R1 hle1) ?_
    rintro R2 r hle2 rfl
    cases hvo : validV o with
    | false =>
      try simp only [go_sem, ↓reduceIte, Nat.reduceEqDiff, Nat.reduceAdd, Nat.reduceMul, Nat.reduceLeDiff, Nat.reduceLT, Nat.reduceBNe, reduceCtorEq, e2, e3, e4, e6, e7]
      exact rfl
    | true =>
    have hle12 := RO.le_trans hle1 hle2
    have hd1 := validV_hdr hv
    have ho1 := validV_hdr hvo
    have hd2 := validV_all hv
    have ho2 := validV_all hvo
    have hM := mgo_spec (d.edits.length + o.edits.length) d.edits o.edits (Nat.le_refl _) hd2.2 ho2.2
    rw [if_pos ⟨rfl, rfl⟩]
    try simp only [go_sem, ↓reduceIte, Nat.reduceEqDiff, Nat.reduceAdd, Nat.reduceMul, Nat.reduceLeDiff, Nat.reduceLT, Nat.reduceBNe, reduceCtorEq, e2, e3, e4, e6, e7]
    refine vhand [5] [.val (.slice a d.edits.length cap), .val (.slice b o.edits.length cap'), .val (.func (.func 60) #[] #[]), .fn 61 [.l 0 0]] [.box [.val (.bool true)]] (dMergeS d.edits o.edits _ _ R2 (h0.mono hle12) (k0.mono hle12) (by omega) (by omega)) rfl rfl rfl ?_ (by simp) rfl rfl ?_
    · try simp only [go_sem, ↓reduceIte, Nat.reduceEqDiff, Nat.reduceAdd, Nat.reduceMul, Nat.reduceLeDiff, Nat.reduceLT, Nat.reduceBNe, reduceCtorEq]
    rintro R3 bs r hle3 ⟨rest, w, rfl, rfl, u, v, rfl, hu, hvf⟩ _
    rw [hM.fresh] at hvf
    rw [hM.agree]
    change EdsV R3 u (unionD d.edits o.edits) at hu
    obtain ⟨ua, ucap, rfl, _⟩ := hu.form
    obtain ⟨va, vcap, rfl, _, hff⟩ := PlOK.of hvf
    simp only [List.map_cons, renB, List.map_nil, ren]
    obtain ⟨rest', hrest⟩ : ∃ r', r' = rest.map (renB ([5] ++ List.range' 6 ((rest.length + 1) - 1))) := ⟨_, rfl⟩
    simp only [List.length_cons, List.length_nil, Nat.zero_add, Nat.reduceAdd]
    try simp only [go_sem, ↓reduceIte, Nat.reduceEqDiff, Nat.reduceAdd, Nat.reduceMul, Nat.reduceLeDiff, Nat.reduceLT, Nat.reduceBNe, reduceCtorEq, setG, setG_no, rn, e2, e3, e4, e6, e7]
    refine ⟨fun hag => ?_, fun hag => ⟨fun hl => ?_, fun hl => ?_⟩⟩
    · rw [if_neg (by rw [hag]; simp)]; exact rfl
    · rw [if_pos hag, if_pos (by omega)]; exact rfl
    rw [if_pos hag, if_neg (by omega)]
    have hfb : ∀ e ∈ freshD d.edits o.edits, 1 ≤ e.seq ∧ e.seq ≤ 1099511627776 := fun e he => validD_seq (ho2.1 e (List.mem_filter.1 he).1).1
    have hfl : (freshD d.edits o.edits).length ≤ 4096 := Nat.le_trans (List.length_filter_le _ _) (by omega)
    have hW := fun (n : Int) R' old w ds ho hw => dWith ⟨d.id, d.epoch, n, []⟩ old w ds R' ho hw
    simp only [dvCells] at hW
    obtain ⟨fs, hfs⟩ : ∃ fs, fs = freshD d.edits o.edits := ⟨_, rfl⟩
    rw [← hfs] at hfb hff hfl ⊢
    have hnb : ∀ i, i ≤ fs.length → 1 ≤ nextD d.next (fs.take i) ∧ nextD d.next (fs.take i) ≤ 1099511627777 := fun i hi => by
      refine ⟨by have := nextD_le d.next (fs.take i); omega, ?_⟩
      have h1 : ∀ l : List De, (∀ e ∈ l, 1 ≤ e.seq ∧ e.seq ≤ 1099511627776) → ∀ n, n ≤ 1099511627777 → nextD n l ≤ 1099511627777 := by
        intro l
        induction l with
        | nil => intro _ n hn; exact hn
        | cons e l ih =>
          intro hl n hn
          have := hl e (by simp)
          exact ih (fun x hx => hl x (by simp [hx])) _ (by show max n (e.seq / 64 + 1) ≤ _; omega)
      exact h1 _ (fun e he => hfb e (List.mem_of_mem_take he)) _ (by omega)
    refine vcLoopR Nat (fun i => [(46, .val (.int .i64 i)), (45, .val (.int .i64 fs.length)), (44, .val (.slice va fs.length vcap)), (6, .loc 0 0), (4, .loc 1 0), (9, .val (.slice ua (unionD d.edits o.edits).length ucap))])
      (fun i => [.box [.val (.int .i64 d.id), .val (.int .i64 d.epoch), .val (.int .i64 (nextD d.next (fs.take i))), .val (.slice a d.edits.length cap)], .box [.val (.int .i64 0), .val (.int .i64 0), .val (.int .i64 0), .val (.slice none 0 0)]])
      (fun i _ => i ≤ fs.length) (fun i => fs.length - i) 0 [3, 2] ?_ ?_ ?_ ?_
    · (try simp only [go_sem, ↓reduceIte, Nat.reduceEqDiff, Nat.reduceAdd, Nat.reduceMul, Nat.reduceLeDiff, Nat.reduceLT, Nat.reduceBNe, reduceCtorEq]) <;> (repeat' (first | rfl | trivial | constructor | (intro h; exact absurd rfl h)))
    · try simp only [go_sem, ↓reduceIte, Nat.reduceEqDiff, Nat.reduceAdd, Nat.reduceMul, Nat.reduceLeDiff, Nat.reduceLT, Nat.reduceBNe, reduceCtorEq]
      rfl
    · exact Nat.zero_le _
    rintro i env R4 hle4 hE hi
    (simp only [go_sem] at hE; obtain ⟨g46, g45, g44, g6, g4, g9⟩ := hE; simp only [go_sem, ↓reduceIte, Nat.reduceEqDiff, Nat.reduceAdd, Nat.reduceMul, Nat.reduceLeDiff, Nat.reduceLT, Nat.reduceBNe, reduceCtorEq, g46, g45, g44, g6, g4, g9]; dsimp only at *)
    refine ⟨fun hlt => ⟨hlt, ?_⟩, fun hge => ?_⟩
    · have hlt' : i < fs.length := by omega
      obtain ⟨ad, p, had, hp1, hR, hpok⟩ := hff i hlt'
      have hpb := hfb _ (List.getElem_mem hlt')
      rw [← hp1] at hpb
      have htd : p.1.seq.tdiv 64 = p.1.seq / 64 := tdiv_nonneg' (by omega) (by omega)
      have hsn := nextD_snoc d.next (fs.take i) fs[i]
      rw [← List.take_succ_eq_append_getElem hlt', ← hp1] at hsn
      refine vat ad had ?_
      try simp only [go_sem, ↓reduceIte, Nat.reduceEqDiff, Nat.reduceAdd, Nat.reduceMul, Nat.reduceLeDiff, Nat.reduceLT, Nat.reduceBNe, reduceCtorEq]
      refine vloadn p.ed.cells rfl (fun j u hj => hle4 _ _ (hR j u hj)) ?_
      simp only [go_sem, ↓reduceIte, Nat.reduceEqDiff, Nat.reduceAdd, Nat.reduceMul, Nat.reduceLeDiff, Nat.reduceLT, Nat.reduceBNe, reduceCtorEq, Ed.cells, Pl.ed, De.ed, g46, g45, g44, g6, g4, g9]
      refine ⟨by omega, _, W.in64 (by rw [htd]; omega), _, W.in64 (by rw [htd]; omega), ?_⟩
      refine ⟨_, W.in64 (by omega), i + 1, [], ?_⟩
      rw [hsn, htd]
      try simp only [go_sem, ↓reduceIte, Nat.reduceEqDiff, Nat.reduceAdd, Nat.reduceMul, Nat.reduceLeDiff, Nat.reduceLT, Nat.reduceBNe, reduceCtorEq]
      exact ⟨by omega, rfl, by decide, by omega⟩
    · obtain rfl : i = fs.length := by omega
      rw [List.take_length] at *
      refine vcall (hW _ R4 _ _ _ rfl (hu.mono hle4)) ?_
      rintro R5 w hle5 ⟨v', rfl, hv'⟩
      have hv1 := hv'.one
      obtain ⟨va2, vc2, rfl, _⟩ := hv'.form
      try simp only [go_sem, ↓reduceIte, Nat.reduceEqDiff, Nat.reduceAdd, Nat.reduceMul, Nat.reduceLeDiff, Nat.reduceLT, Nat.reduceBNe, reduceCtorEq, g6, g4]
      exact ⟨_, rfl, hv'⟩
  · try simp only [go_sem, ↓reduceIte, Nat.reduceEqDiff, Nat.reduceAdd, Nat.reduceMul, Nat.reduceLeDiff, Nat.reduceLT, Nat.reduceBNe, reduceCtorEq, e2, e3, e4, e6, e7]
    refine vcall (hV R (RO.le_refl _)) ?_
    rintro R1 r hle1 rfl
    unfold dvSync
    cases hv : validV d with
    | false =>
      try simp only [go_sem, ↓reduceIte, Nat.reduceEqDiff, Nat.reduceAdd, Nat.reduceMul, Nat.reduceLeDiff, Nat.reduceLT, Nat.reduceBNe, reduceCtorEq, e2, e3, e4, e6, e7]
      rw [if_neg (by simp)]
      exact rfl
    | true =>
    try simp only [go_sem, ↓reduceIte, Nat.reduceEqDiff, Nat.reduceAdd, Nat.reduceMul, Nat.reduceLeDiff, Nat.reduceLT, Nat.reduceBNe, reduceCtorEq, e2, e3, e4, e6, e7]
    refine vcall (hVo R1 hle1) ?_
    rintro R2 r hle2 rfl
    cases hvo : validV o with
    | false =>
      try simp only [go_sem, ↓reduceIte, Nat.reduceEqDiff, Nat.reduceAdd, Nat.reduceMul, Nat.reduceLeDiff, Nat.reduceLT, Nat.reduceBNe, reduceCtorEq, e2, e3, e4, e6, e7]
      exact rfl
    | true =>
    have hle12 := RO.le_trans hle1 hle2
    have hd1 := validV_hdr hv
    have ho1 := validV_hdr hvo
    have hd2 := validV_all hv
    have ho2 := validV_all hvo
    have hM := mgo_spec (d.edits.length + o.edits.length) d.edits o.edits (Nat.le_refl _) hd2.2 ho2.2
    rw [if_pos ⟨rfl, rfl⟩]
    try simp only [go_sem, ↓reduceIte, Nat.reduceEqDiff, Nat.reduceAdd, Nat.reduceMul, Nat.reduceLeDiff, Nat.reduceLT, Nat.reduceBNe, reduceCtorEq, e2, e3, e4, e6, e7]
    refine vhand [5] [.val (.slice a d.edits.length cap), .val (.slice b o.edits.length cap'), .val (.func (.func 60) #[] #[]), .fn 61 [.l 0 0]] [.box [.val (.bool true)]] (dMergeS d.edits o.edits _ _ R2 (h0.mono hle12) (k0.mono hle12) (by omega) (by omega)) rfl rfl rfl ?_ (by simp) rfl rfl ?_
    · try simp only [go_sem, ↓reduceIte, Nat.reduceEqDiff, Nat.reduceAdd, Nat.reduceMul, Nat.reduceLeDiff, Nat.reduceLT, Nat.reduceBNe, reduceCtorEq]
    rintro R3 bs r hle3 ⟨rest, w, rfl, rfl, u, v, rfl, hu, hvf⟩ _
    rw [hM.fresh] at hvf
    rw [hM.agree]
    change EdsV R3 u (unionD d.edits o.edits) at hu
    obtain ⟨ua, ucap, rfl, _⟩ := hu.form
    obtain ⟨va, vcap, rfl, _, hff⟩ := PlOK.of hvf
    simp only [List.map_cons, renB, List.map_nil, ren]
    obtain ⟨rest', hrest⟩ : ∃ r', r' = rest.map (renB ([5] ++ List.range' 6 ((rest.length + 1) - 1))) := ⟨_, rfl⟩
    simp only [List.length_cons, List.length_nil, Nat.zero_add, Nat.reduceAdd]
    try simp only [go_sem, ↓reduceIte, Nat.reduceEqDiff, Nat.reduceAdd, Nat.reduceMul, Nat.reduceLeDiff, Nat.reduceLT, Nat.reduceBNe, reduceCtorEq, setG, setG_no, rn, e2, e3, e4, e6, e7]
    refine ⟨fun hag => ?_, fun hag => ⟨fun hl => ?_, fun hl => ?_⟩⟩
    · rw [if_neg (by rw [hag]; simp)]; exact rfl
    · rw [if_pos hag, if_pos (by omega)]; exact rfl
    rw [if_pos hag, if_neg (by omega)]
    have hfb : ∀ e ∈ freshD d.edits o.edits, 1 ≤ e.seq ∧ e.seq ≤ 1099511627776 := fun e he => validD_seq (ho2.1 e (List.mem_filter.1 he).1).1
    have hfl : (freshD d.edits o.edits).length ≤ 4096 := Nat.le_trans (List.length_filter_le _ _) (by omega)
    have hW := fun (n : Int) R' old w ds ho hw => dWith ⟨d.id, d.epoch, n, []⟩ old w ds R' ho hw
    simp only [dvCells] at hW
    obtain ⟨fs, hfs⟩ : ∃ fs, fs = freshD d.edits o.edits := ⟨_, rfl⟩
    rw [← hfs] at hfb hff hfl ⊢
    have hnb : ∀ i, i ≤ fs.length → 1 ≤ nextD d.next (fs.take i) ∧ nextD d.next (fs.take i) ≤ 1099511627777 := fun i hi => by
      refine ⟨by have := nextD_le d.next (fs.take i); omega, ?_⟩
      have h1 : ∀ l : List De, (∀ e ∈ l, 1 ≤ e.seq ∧ e.seq ≤ 1099511627776) → ∀ n, n ≤ 1099511627777 → nextD n l ≤ 1099511627777 := by
        intro l
        induction l with
        | nil => intro _ n hn; exact hn
        | cons e l ih =>
          intro hl n hn
          have := hl e (by simp)
          exact ih (fun x hx => hl x (by simp [hx])) _ (by show max n (e.seq / 64 + 1) ≤ _; omega)
      exact h1 _ (fun e he => hfb e (List.mem_of_mem_take he)) _ (by omega)
    refine vcLoopR Nat (fun i => [(46, .val (.int .i64 i)), (45, .val (.int .i64 fs.length)), (44, .val (.slice va fs.length vcap)), (6, .loc 0 0), (4, .loc 1 0), (9, .val (.slice ua (unionD d.edits o.edits).length ucap))])
      (fun i => [.box [.val (.int .i64 d.id), .val (.int .i64 d.epoch), .val (.int .i64 (nextD d.next (fs.take i))), .val (.slice a d.edits.length cap)], .box [.val (.int .i64 0), .val (.int .i64 0), .val (.int .i64 0), .val (.slice none 0 0)]])
      (fun i _ => i ≤ fs.length) (fun i => fs.length - i) 0 [4, 2] ?_ ?_ ?_ ?_
    · (try simp only [go_sem, ↓reduceIte, Nat.reduceEqDiff, Nat.reduceAdd, Nat.reduceMul, Nat.reduceLeDiff, Nat.reduceLT, Nat.reduceBNe, reduceCtorEq]) <;> (repeat' (first | rfl | trivial | constructor | (intro h; exact absurd rfl h)))
    · try simp only [go_sem, ↓reduceIte, Nat.reduceEqDiff, Nat.reduceAdd, Nat.reduceMul, Nat.reduceLeDiff, Nat.reduceLT, Nat.reduceBNe, reduceCtorEq]
      rfl
    · exact Nat.zero_le _
    rintro i env R4 hle4 hE hi
    (simp only [go_sem] at hE; obtain ⟨g46, g45, g44, g6, g4, g9⟩ := hE; simp only [go_sem, ↓reduceIte, Nat.reduceEqDiff, Nat.reduceAdd, Nat.reduceMul, Nat.reduceLeDiff, Nat.reduceLT, Nat.reduceBNe, reduceCtorEq, g46, g45, g44, g6, g4, g9]; dsimp only at *)
    refine ⟨fun hlt => ⟨hlt, ?_⟩, fun hge => ?_⟩
    · have hlt' : i < fs.length := by omega
      obtain ⟨ad, p, had, hp1, hR, hpok⟩ := hff i hlt'
      have hpb := hfb _ (List.getElem_mem hlt')
      rw [← hp1] at hpb
      have htd : p.1.seq.tdiv 64 = p.1.seq / 64 := tdiv_nonneg' (by omega) (by omega)
      have hsn := nextD_snoc d.next (fs.take i) fs[i]
      rw [← List.take_succ_eq_append_getElem hlt', ← hp1] at hsn
      refine vat ad had ?_
      try simp only [go_sem, ↓reduceIte, Nat.reduceEqDiff, Nat.reduceAdd, Nat.reduceMul, Nat.reduceLeDiff, Nat.reduceLT, Nat.reduceBNe, reduceCtorEq]
      refine vloadn p.ed.cells rfl (fun j u hj => hle4 _ _ (hR j u hj)) ?_
      simp only [go_sem, ↓reduceIte, Nat.reduceEqDiff, Nat.reduceAdd, Nat.reduceMul, Nat.reduceLeDiff, Nat.reduceLT, Nat.reduceBNe, reduceCtorEq, Ed.cells, Pl.ed, De.ed, g46, g45, g44, g6, g4, g9]
      refine ⟨by omega, _, W.in64 (by rw [htd]; omega), _, W.in64 (by rw [htd]; omega), ?_⟩
      refine ⟨_, W.in64 (by omega), i + 1, [], ?_⟩
      rw [hsn, htd]
      try simp only [go_sem, ↓reduceIte, Nat.reduceEqDiff, Nat.reduceAdd, Nat.reduceMul, Nat.reduceLeDiff, Nat.reduceLT, Nat.reduceBNe, reduceCtorEq]
      exact ⟨by omega, rfl, by decide, by omega⟩
    · obtain rfl : i = fs.length := by omega
      rw [List.take_length] at *
      refine vcall (hW _ R4 _ _ _ rfl (hu.mono hle4)) ?_
      rintro R5 w hle5 ⟨v', rfl, hv'⟩
      have hv1 := hv'.one
      obtain ⟨va2, vc2, rfl, _⟩ := hv'.form
      try simp only [go_sem, ↓reduceIte, Nat.reduceEqDiff, Nat.reduceAdd, Nat.reduceMul, Nat.reduceLeDiff, Nat.reduceLT, Nat.reduceBNe, reduceCtorEq, g6, g4]
      exact ⟨_, rfl, hv'⟩
def LacksQ (d o : Dv) (a : Option Addr) (cap : Nat) (b : Option Addr) (cap' : Nat) (R : RO) (s' : St) : Prop := ∃ env, env 2 = .loc 0 0 ∧ env 3 = .loc 1 0 ∧
    ((s' = ⟨env, [.box [.val (.int .i64 d.id), .val (.int .i64 d.epoch), .val (.int .i64 d.next), .val (.slice a d.edits.length cap)], .box [.val (.int .i64 o.id), .val (.int .i64 o.epoch), .val (.int .i64 o.next), .val (.slice b o.edits.length cap')],
      .box [.val (.int .i64 d.id), .val (.int .i64 d.epoch), .val (.int .i64 d.next), .val (.slice a d.edits.length cap)], .box [.val (.int .i64 o.id), .val (.int .i64 o.epoch), .val (.int .i64 o.next), .val (.slice b o.edits.length cap')]], R⟩ ∧ env 5 = .loc 2 0 ∧ env 6 = .loc 3 0) ∨
     (s' = ⟨env, [.box [.val (.int .i64 d.id), .val (.int .i64 d.epoch), .val (.int .i64 d.next), .val (.slice a d.edits.length cap)], .box [.val (.int .i64 o.id), .val (.int .i64 o.epoch), .val (.int .i64 o.next), .val (.slice b o.edits.length cap')],
      .box [.val (.int .i64 o.id), .val (.int .i64 o.epoch), .val (.int .i64 o.next), .val (.slice b o.edits.length cap')], .box [.val (.int .i64 d.id), .val (.int .i64 d.epoch), .val (.int .i64 d.next), .val (.slice a d.edits.length cap)]], R⟩ ∧ env 5 = .loc 3 0 ∧ env 6 = .loc 2 0))
/-- What Lacks hands back. -/
theorem dLacks (d o : Dv) (dv ov : Value) (R : RO) (h : EdsV R dv d.edits) (k : EdsV R ov o.edits) : CallsR Tryz.prog 25 [.agg (dvCells d dv).toArray, .agg (dvCells o ov).toArray] R fun R' r => EdsV R' r (dvLacks d o) := by
  have hV := fun R' (hle : RO.le R R') => dValid d dv R' (h.mono hle)
  have hVo := fun R' (hle : RO.le R R') => dValid o ov R' (k.mono hle)
  have h0 := h
  have k0 := k
  obtain ⟨a, cap, rfl, hc, hf⟩ := h.form
  obtain ⟨b, cap', rfl, hc', hf'⟩ := k.form
  simp only [dvCells] at hV hVo ⊢
  refine callsT mix Tryz.func25 comp25 (by simp [Tryz.ntmps25]) ?_; simp only [vc25, rs25]
  (refine cutR ?_ ?_ ?_; rotate_left; (try simp only [go_sem, ↓reduceIte, Nat.reduceEqDiff, Nat.reduceAdd, Nat.reduceMul, Nat.reduceLeDiff, Nat.reduceLT, Nat.reduceBNe, reduceCtorEq, true_and]; rfl))
  rw [tCode_seq]
  refine cutT (LacksQ d o a cap b cap' R) ?_ ?_
  · try simp only [go_sem, ↓reduceIte, Nat.reduceEqDiff, Nat.reduceAdd, Nat.reduceMul, Nat.reduceLeDiff, Nat.reduceLT, Nat.reduceBNe, reduceCtorEq]
    repeat' (with_reducible first | refine And.intro ?_ ?_ | intro _)
    all_goals unfold LacksQ
    all_goals first
      | exact ⟨_, rfl, rfl, .inl ⟨rfl, rfl, rfl⟩⟩
      | exact ⟨_, rfl, rfl, .inr ⟨rfl, rfl, rfl⟩⟩
  rintro s' ⟨env, e2, e3, hst⟩
  rcases hst with ⟨rfl, e5, e6⟩ | ⟨rfl, e5, e6⟩
  all_goals
    try simp only [go_sem, ↓reduceIte, Nat.reduceEqDiff, Nat.reduceAdd, Nat.reduceMul, Nat.reduceLeDiff, Nat.reduceLT, Nat.reduceBNe, reduceCtorEq, e2, e3, e5, e6]
    refine vcall (hV R (RO.le_refl _)) ?_
    rintro R1 r hle1 rfl
    unfold dvLacks
    cases hv : validV d with
    | false =>
      try simp only [go_sem, ↓reduceIte, Nat.reduceEqDiff, Nat.reduceAdd, Nat.reduceMul, Nat.reduceLeDiff, Nat.reduceLT, Nat.reduceBNe, reduceCtorEq, e2, e3, e5, e6]
      rw [if_neg (by simp)]
      exact EdsV.nil _
    | true =>
    try simp only [go_sem, ↓reduceIte, Nat.reduceEqDiff, Nat.reduceAdd, Nat.reduceMul, Nat.reduceLeDiff, Nat.reduceLT, Nat.reduceBNe, reduceCtorEq, e2, e3, e5, e6]
    refine vcall (hVo R1 hle1) ?_
    rintro R2 r hle2 rfl
    cases hvo : validV o with
    | false =>
      try simp only [go_sem, ↓reduceIte, Nat.reduceEqDiff, Nat.reduceAdd, Nat.reduceMul, Nat.reduceLeDiff, Nat.reduceLT, Nat.reduceBNe, reduceCtorEq, e2, e3, e5, e6]
      exact EdsV.nil _
    | true =>
    have hle12 := RO.le_trans hle1 hle2
    have hd1 := validV_hdr hv
    have ho1 := validV_hdr hvo
    have hd2 := validV_all hv
    have ho2 := validV_all hvo
    have hM := mgo_spec (d.edits.length + o.edits.length) d.edits o.edits (Nat.le_refl _) hd2.2 ho2.2
    rw [if_pos ⟨rfl, rfl⟩]
    try simp only [go_sem, ↓reduceIte, Nat.reduceEqDiff, Nat.reduceAdd, Nat.reduceMul, Nat.reduceLeDiff, Nat.reduceLT, Nat.reduceBNe, reduceCtorEq, e2, e3, e5, e6]
    refine vcall (dMergeL d.edits o.edits _ _ R2 (h0.mono hle12) (k0.mono hle12) (by omega) (by omega)) ?_
    rintro R3 w hle3 ⟨u, v, rfl, hu, hvf⟩
    rw [hM.fresh] at hvf
    obtain ⟨ua, ucap, rfl, _⟩ := hu.form
    obtain ⟨va, vcap, rfl, _⟩ := hvf.form
    try simp only [go_sem, ↓reduceIte, Nat.reduceEqDiff, Nat.reduceAdd, Nat.reduceMul, Nat.reduceLeDiff, Nat.reduceLT, Nat.reduceBNe, reduceCtorEq, e2, e3, e5, e6]
    have hW := fun R' old w ds ho hw => dWith d old w ds R' ho hw
    simp only [dvCells] at hW
    refine vcall (hW R3 _ _ _ rfl hvf) ?_
    rintro R5 w hle5 ⟨v', rfl, hv'⟩
    have hv1 := hv'.one
    obtain ⟨va2, vc2, rfl, _⟩ := hv'.form
    try simp only [go_sem, ↓reduceIte, Nat.reduceEqDiff, Nat.reduceAdd, Nat.reduceMul, Nat.reduceLeDiff, Nat.reduceLT, Nat.reduceBNe, reduceCtorEq, e2, e3, e5, e6]
    exact hv'
end Go.Proofs.YtojckjngjfgfdaaGreat
