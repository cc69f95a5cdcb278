import Derived.Test.YtpnhiknfcpkfbaaGreatZc
namespace Go.Proofs.YtpnhiknfcpkfbaaGreat
set_option linter.unusedSimpArgs false
set_option linter.unusedVariables false
open Go.Proofs.YtpnhiknfcpkfbaaGreat.Vc
/-! ### The reference's Merge -/
/-- The series of a day. -/
def tiR (s : Se) (rl : List Nd) (o : List De) (d : Int) : Ti := ⟨(onE d (s.on rl) o).rule, (onE d (s.on rl) o).minute, (onE d (s.on rl) o).length, (onE d (s.on rl) o).zone, s.gap, s.fold⟩
def refR (s : Se) (rl : List Nd) (ms : List Mv) (o : List De) : List Int → List Pa → List Pa
  | [], out => out
  | d :: r, out => if o.any (goneOn d) = true then addLast (newPart out d Ti.zero) [] else refR s rl ms o r (addLast (newPart out d (tiR s rl o d)) (mvRef ms o d))
def daysR (ms : List Mv) (o : List De) : List Int := (ms.map (·.day)).foldl insI ((o.map (·.day)).foldl insI [0])
theorem insI_len (l : List Int) (x : Int) : (insI l x).length ≤ l.length + 1 := by
  have h := congrArg List.length (List.takeWhile_append_dropWhile (p := fun y => decide (y < x)) (l := l))
  rw [List.length_append] at h
  unfold insI
  dsimp only
  rw [List.length_append]
  split
  · omega
  · rw [List.length_cons]; omega
theorem foldI_len : ∀ (xs l : List Int), (xs.foldl insI l).length ≤ l.length + xs.length
  | [], l => by simp
  | x :: xs, l => by
    have h1 := foldI_len xs (insI l x)
    have h2 := insI_len l x
    rw [List.foldl_cons, List.length_cons]; omega
theorem mvRef_len {ms : List Mv} (hp : ms.Pairwise fun a b => a.day ≠ b.day) (x : Int) (o : List De) : (mvRef ms o x).length ≤ 1 := by
  have h0 : ∀ (ms : List Mv), ms.Pairwise (fun a b => a.day ≠ b.day) → (ms.filter fun m => decide (m.day = x)).length ≤ 1 := by
    intro ms hp
    induction ms with
    | nil => simp
    | cons m r ih =>
      have h1 := List.pairwise_cons.1 hp
      rw [List.filter_cons]
      split
      · rename_i hm
        have : r.filter (fun m => decide (m.day = x)) = [] := List.filter_eq_nil_iff.2 fun y hy => by
          have := h1.1 y hy
          simp only [decide_eq_true_eq] at hm ⊢
          omega
        rw [this]; simp
      · exact ih h1.2
  unfold mvRef
  have hl := h0 ms hp
  generalize ms.filter (fun m => decide (m.day = x)) = l at hl ⊢
  induction o generalizing l with
  | nil => exact hl
  | cons d o ih =>
    rw [List.foldl_cons]
    refine ih _ ?_
    unfold mvStep
    (repeat' split) <;> simp [hl]
theorem mvSrc {R : RO} {a : Option Addr} {n c : Nat} {xs : List Mv} (h : EncV Mv.cells 5 R (.slice a n c) xs) {kk : List Value → Prop} {t : Tok kk} (hk : kk (rowM xs)) : SrcP R 5 a n kk t := by
  obtain ⟨a', cap, e, hc, hf⟩ := h.form
  simp only [Value.slice.injEq] at e
  obtain ⟨rfl, rfl, rfl⟩ := e
  refine vsrc (rowM xs) (by rw [rowM_len]) (fun u hu => ?_) (fun hne => ?_) hk
  · obtain ⟨c, hc', hu'⟩ := List.mem_flatten.1 hu
    obtain ⟨m, _, rfl⟩ := List.mem_map.1 hc'
    simp only [Mv.cells, List.mem_cons, List.not_mem_nil, or_false] at hu'
    rcases hu' with rfl | rfl | rfl | rfl | rfl <;> rfl
  · cases ha : a with
    | none =>
      exfalso
      cases xs with
      | nil => exact hne rfl
      | cons x r => obtain ⟨ad, e, _⟩ := hf 0 (by simp); rw [ha] at e; cases e
    | some ad =>
      refine ⟨ad, rfl, fun i u hi => ?_⟩
      obtain ⟨us, hus, hu⟩ := flat_get (k := 5) (fun us hus => by obtain ⟨m, _, rfl⟩ := List.mem_map.1 hus; rfl) (by omega) hi
      rw [List.getElem?_map] at hus
      obtain ⟨m, hm, rfl⟩ := Option.map_eq_some_iff.1 hus
      obtain ⟨hlt, rfl⟩ := List.getElem?_eq_some_iff.1 hm
      obtain ⟨ad', e, hR⟩ := hf _ hlt
      rw [ha] at e
      simp only [Option.some.injEq] at e
      subst e
      have := hR _ _ hu
      rw [add_add, Nat.mul_comm, Nat.div_add_mod] at this
      exact this
theorem onV_cases {R : RO} {r : Value} {s : Se} {rl : List Nd} {ms : List Mv} {o : List De} {x : Int} (h : OnV R r s rl ms o x) :
    ∃ (ok : Bool) (ti : Ti) (rv mvv : Value) (mvs : List Mv), r = .tuple #[.agg (Se.cells ⟨rv, ti.minute, ti.length, ti.zone, ti.gap, ti.fold, mvv⟩).toArray, .bool ok] ∧ RuleV R rv ti.rule ∧ EncV Mv.cells 5 R mvv mvs ∧ (mvs = [] ∨ mvs = mvRef ms o x) ∧
      ∀ l out, refR s rl ms o (x :: l) out = if ok = true then refR s rl ms o l (addLast (newPart out x ti) mvs) else addLast (newPart out x ti) mvs := by
  unfold OnV at h
  split at h
  · rename_i hg
    refine ⟨false, Ti.zero, .slice none 0 0, .slice none 0 0, [], h, RuleV.nil _, EncV.nil _ _ _, .inl rfl, fun l out => ?_⟩
    rw [refR, if_pos hg, if_neg (by simp)]
  · rename_i hg
    obtain ⟨rv, mv, rfl, hrv, hmv⟩ := h
    refine ⟨true, tiR s rl o x, rv, mv, _, rfl, hrv, hmv, .inr rfl, fun l out => ?_⟩
    rw [refR, if_neg hg, if_pos rfl]
theorem rowPq_app (ps qs : List Pq) : rowPq (ps ++ qs) = rowPq ps ++ rowPq qs := by simp [rowPq]
theorem rowPq_last (qs : List Pq) (y : Pq) (j : Nat) : (rowPq (qs ++ [y]))[qs.length * 8 + j]? = (y.cells)[j]? := by
  rw [rowPq_app, List.getElem?_append_right (by rw [rowPq_len]; omega), rowPq_len, show qs.length * 8 + j - qs.length * 8 = j by omega]
  simp [rowPq]
theorem rowPq_setLast (qs : List Pq) (y : Pq) (m : List Mv) (v : Value) : (rowPq (qs ++ [y])).set (qs.length * 8 + 1 + 6) v = rowPq (qs ++ [(⟨y.1.day, y.1.ti, m⟩, y.2.1, v)]) := by
  rw [show qs.length * 8 + 1 + 6 = qs.length * 8 + 7 by omega, rowPq_set _ _ (by simp) m v]
  congr 1
  simp
theorem newPart_len (out : List Pa) (d : Int) (x : Ti) : (newPart out d x).length ≤ out.length + 1 := by
  unfold newPart
  (repeat' split) <;> simp
set_option maxHeartbeats 4000000 in
theorem rMerge (s : Se) (rl : List Nd) (ms : List Mv) (ds o : List De) (v : Value) (R : RO) (hr : RuleV R s.rule rl) (hm : EncV Mv.cells 5 R s.moves ms) (h : EdsV R v ds) (hc : Cons ds) (ho : allD ds = .ok o)
    (hsl : 1 ≤ s.length) (hmo : movesOK none ms = true) (hsz : ms.length + ds.length ≤ 60) : CallsR Tryz.prog 10 [.agg s.cells.toArray, v] R fun R' r => ∃ u, r = .tuple #[u, .int .i64 0] ∧ PartsV R' u (refR s rl ms o (daysR ms o) []) := by
  have hS := rAll ds o v
  have hRb := rRebase ds o v R h hc (by omega) ho
  have h0 := h
  obtain ⟨a0, cap0, rfl, _⟩ := h.form
  have hsr := hr.one
  have hval := allD_valid ho
  have hk : ∀ d ∈ o, 1 ≤ d.kind ∧ d.kind ≤ 5 := fun d hd => by have := valid_kind (hval d hd); omega
  have hpair := (movesOK_pair hmo).1
  have hpne : ms.Pairwise fun a b => a.day ≠ b.day := hpair.imp fun h => by omega
  have hO := rOn s rl ms o
  have hm0 := hm
  have hr0 := hr
  obtain ⟨sr, sm, sl, sz, sg, sf, smv⟩ := s
  dsimp only at hr hm hsr hO hsl hm0 hr0
  obtain ⟨ra0, rn0, rc0, rfl⟩ := hr.form
  obtain ⟨ma, mcap, rfl, hmc, hmf⟩ := hm.form
  simp only [Se.cells] at hO ⊢
  refine callsT mix Tryz.func10 comp10 (by simp [Tryz.ntmps10]) ?_; simp only [go_sem, ↓reduceIte, Nat.reduceEqDiff, Nat.reduceAdd, Nat.reduceMul, Nat.reduceLeDiff, Nat.reduceLT, Nat.reduceBNe, reduceCtorEq, vc10, rs10]
  refine vcall hRb ?_
  rintro R1 r hle1 ⟨u, w, rfl, hu, hw⟩
  obtain ⟨ua, ucap, rfl, _⟩ := hu.form
  obtain ⟨wa, wcap, rfl, _⟩ := hw.form
  try simp only [go_sem, ↓reduceIte, Nat.reduceEqDiff, Nat.reduceAdd, Nat.reduceMul, Nat.reduceLeDiff, Nat.reduceLT, Nat.reduceBNe, reduceCtorEq]
  refine ⟨fun hl => by omega, fun _ => ?_⟩
  obtain ⟨bs, hbs⟩ : ∃ bs : List Value, bs = [.slice ra0 rn0 rc0, .int .i64 sm, .int .i64 sl, .string sz, .int .i64 sg, .int .i64 sf, .slice ma ms.length mcap] := ⟨_, rfl⟩
  refine vcLoop Nat (fun i => [(7, .val (.int .i64 i)), (2, .loc 0 0), (1, .val (.slice a0 ds.length cap0))])
    (fun _ => [.box [.val (.slice ra0 rn0 rc0), .val (.int .i64 sm), .val (.int .i64 sl), .val (.string sz), .val (.int .i64 sg), .val (.int .i64 sf), .val (.slice ma ms.length mcap)]])
    (fun i _ => i ≤ ms.length) (fun i => ms.length - i) 0 ?_ ?_ ?_ ?_
  · (try simp only [go_sem, ↓reduceIte, Nat.reduceEqDiff, Nat.reduceAdd, Nat.reduceMul, Nat.reduceLeDiff, Nat.reduceLT, Nat.reduceBNe, reduceCtorEq]) <;> (repeat' (first | rfl | trivial | constructor | (intro h; exact absurd rfl h)))
  · try simp only [go_sem, ↓reduceIte, Nat.reduceEqDiff, Nat.reduceAdd, Nat.reduceMul, Nat.reduceLeDiff, Nat.reduceLT, Nat.reduceBNe, reduceCtorEq]
  · exact Nat.zero_le _
  rintro i env R2 hle2 hE hi
  (simp only [go_sem] at hE; obtain ⟨e7, e2, e1⟩ := hE; simp only [go_sem, ↓reduceIte, Nat.reduceEqDiff, Nat.reduceAdd, Nat.reduceMul, Nat.reduceLeDiff, Nat.reduceLT, Nat.reduceBNe, reduceCtorEq, e7, e2, e1]; dsimp only at *)
  refine ⟨fun hlt => ?_, fun hge => ?_⟩
  · have hlt' : i < ms.length := by omega
    obtain ⟨ad, had, hR⟩ := hmf i hlt'
    have hcl : ∀ j u, ((ms[i]).cells)[j]? = some u → R2 ((ad.add (i * 5)).add j) u := fun j u hj => hle2 _ _ (hle1 _ _ (hR j u hj))
    refine ⟨hlt, vat ad had ?_⟩
    try simp only [go_sem, ↓reduceIte, Nat.reduceEqDiff, Nat.reduceAdd, Nat.reduceMul, Nat.reduceLeDiff, Nat.reduceLT, Nat.reduceBNe, reduceCtorEq]
    refine vloadn (ms[i]).cells rfl hcl ?_
    simp only [go_sem, ↓reduceIte, Nat.reduceEqDiff, Nat.reduceAdd, Nat.reduceMul, Nat.reduceLeDiff, Nat.reduceLT, Nat.reduceBNe, reduceCtorEq, Mv.cells, e7, e2, e1]
    refine vcall (rValidMove ms[i] R2) ?_
    rintro R3 v hle3 rfl
    rw [movesOK_all hmo _ (List.getElem_mem hlt')]
    simp only [go_sem, ↓reduceIte, Nat.reduceEqDiff, Nat.reduceAdd, Nat.reduceMul, Nat.reduceLeDiff, Nat.reduceLT, Nat.reduceBNe, reduceCtorEq, e7, e2, e1]
    refine ⟨fun hpos => ?_, fun hz => ?_⟩
    · obtain ⟨ad', had', hR'⟩ := hmf (i - 1) (by omega)
      have hti : ((i : Int) - 1).toNat = i - 1 := by omega
      refine ⟨_, W.in64 (by omega), by omega, by omega, ?_⟩
      rw [hti]
      refine vat ad' had' ?_
      try simp only [go_sem, ↓reduceIte, Nat.reduceEqDiff, Nat.reduceAdd, Nat.reduceMul, Nat.reduceLeDiff, Nat.reduceLT, Nat.reduceBNe, reduceCtorEq]
      refine vload _ (hle3 _ _ (hle2 _ _ (hle1 _ _ (hR' 0 _ rfl)))) ?_
      simp only [go_sem, ↓reduceIte, Nat.reduceEqDiff, Nat.reduceAdd, Nat.reduceMul, Nat.reduceLeDiff, Nat.reduceLT, Nat.reduceBNe, reduceCtorEq, e7, e2, e1]
      refine ⟨hlt, vat ad had ?_⟩
      try simp only [go_sem, ↓reduceIte, Nat.reduceEqDiff, Nat.reduceAdd, Nat.reduceMul, Nat.reduceLeDiff, Nat.reduceLT, Nat.reduceBNe, reduceCtorEq]
      refine vload _ (hle3 _ _ (hcl 0 _ rfl)) ?_
      simp only [go_sem, ↓reduceIte, Nat.reduceEqDiff, Nat.reduceAdd, Nat.reduceMul, Nat.reduceLeDiff, Nat.reduceLT, Nat.reduceBNe, reduceCtorEq, e7, e2, e1]
      have hlt2 := List.pairwise_iff_getElem.1 hpair (i - 1) i (by omega) hlt' (by omega)
      refine ⟨fun hge => by omega, fun _ => ?_⟩
      refine ⟨_, W.in64 (by omega), i + 1, by omega, by constructor, by omega⟩
    · obtain rfl : i = 0 := by omega
      exact ⟨_, W.in64 (by omega), 1, by omega, by constructor, by omega⟩
  obtain rfl : i = ms.length := by omega
  refine vcall (hS R2 (h0.mono (RO.le_trans hle1 hle2)) hc (by omega) ho) ?_
  rintro R3 r hle3 ⟨u, rfl, hu⟩
  have hol := allD_len ho
  have hu0 := hu
  obtain ⟨a, cap, rfl, hcap, hf⟩ := PlOK.of hu
  have hle123 := RO.le_trans hle1 (RO.le_trans hle2 hle3)
  simp only [go_sem, ↓reduceIte, Nat.reduceEqDiff, Nat.reduceAdd, Nat.reduceMul, Nat.reduceLeDiff, Nat.reduceLT, Nat.reduceBNe, reduceCtorEq, e7, e2, e1]
  obtain ⟨D, hD⟩ : ∃ D : Nat → List Int, D = fun i => ((o.take i).map (·.day)).foldl insI [0] := ⟨_, rfl⟩
  have hD0 : D 0 = [0] := by rw [hD]; rfl
  have hDs : ∀ (i : Nat) (hi : i < o.length), D (i + 1) = insI (D i) (o[i]).day := fun i hi => by
    rw [hD]
    simp only [List.take_succ_eq_append_getElem hi, List.map_append, List.foldl_append]
    rfl
  have hDl : ∀ i, i ≤ o.length → (D i).length ≤ 100 := fun i hi => by
    have := foldI_len ((o.take i).map (·.day)) [0]
    rw [hD]
    simp only [List.length_map, List.length_take, List.length_cons, List.length_nil] at this ⊢
    omega
  refine vcLoopR Nat (fun i => [(12, .val (.int .i64 i)), (11, .sl 1 (D i).length), (9, .val (.slice a o.length cap)), (2, .loc 0 0)])
    (fun i => [.box [.val (.slice ra0 rn0 rc0), .val (.int .i64 sm), .val (.int .i64 sl), .val (.string sz), .val (.int .i64 sg), .val (.int .i64 sf), .val (.slice ma ms.length mcap)], .row 3 1 ((D i).map (.int .i64))])
    (fun i _ => i ≤ o.length) (fun i => o.length - i) 0 [] ?_ ?_ ?_ ?_
  · rw [hD0]
    (try simp only [go_sem, ↓reduceIte, Nat.reduceEqDiff, Nat.reduceAdd, Nat.reduceMul, Nat.reduceLeDiff, Nat.reduceLT, Nat.reduceBNe, reduceCtorEq]) <;> (repeat' (first | rfl | trivial | constructor | (intro h; exact absurd rfl h)))
  · try simp only [go_sem, ↓reduceIte, Nat.reduceEqDiff, Nat.reduceAdd, Nat.reduceMul, Nat.reduceLeDiff, Nat.reduceLT, Nat.reduceBNe, reduceCtorEq]
  · exact Nat.zero_le _
  rintro i env R4 hle4 hE hi
  (simp only [go_sem] at hE; obtain ⟨e12, e11, e9, e2'⟩ := hE; simp only [go_sem, ↓reduceIte, Nat.reduceEqDiff, Nat.reduceAdd, Nat.reduceMul, Nat.reduceLeDiff, Nat.reduceLT, Nat.reduceBNe, reduceCtorEq, e12, e11, e9, e2']; dsimp only at *)
  refine ⟨fun hlt => ⟨hlt, ?_⟩, fun hge => ?_⟩
  · have hlt' : i < o.length := by omega
    obtain ⟨ad, p, had, hp1, hR, hpok⟩ := hf i hlt'
    have hDn := hDs i hlt'
    rw [← hp1] at hDn
    refine vat ad had ?_
    try simp only [go_sem, ↓reduceIte, Nat.reduceEqDiff, Nat.reduceAdd, Nat.reduceMul, Nat.reduceLeDiff, Nat.reduceLT, Nat.reduceBNe, reduceCtorEq]
    refine vload _ (hle4 _ _ (hR 1 _ rfl)) ?_
    simp only [go_sem, ↓reduceIte, Nat.reduceEqDiff, Nat.reduceAdd, Nat.reduceMul, Nat.reduceLeDiff, Nat.reduceLT, Nat.reduceBNe, reduceCtorEq, e12, e11, e9, e2']
    refine vhand [1] [.sl 0 (D i).length, .val (.int .i64 p.1.day)] [.row 3 1 ((D i).map (.int .i64))] (rInsert (D i) p.1.day (by have := hDl i hi; omega) R4) rfl rfl rfl ?_ (by simp) rfl rfl ?_
    · try simp only [go_sem, ↓reduceIte, Nat.reduceEqDiff, Nat.reduceAdd, Nat.reduceMul, Nat.reduceLeDiff, Nat.reduceLT, Nat.reduceBNe, reduceCtorEq]
    rintro R5 bs r hle5 hpost _
    rcases hpost with ⟨hs, rfl, rfl⟩ | ⟨b1, b2, rfl, rfl⟩
    · simp only [go_sem, ↓reduceIte, Nat.reduceEqDiff, Nat.reduceAdd, Nat.reduceMul, Nat.reduceLeDiff, Nat.reduceLT, Nat.reduceBNe, reduceCtorEq, setG, rn, e12, e11, e9, e2']
      refine ⟨_, W.in64 (by omega), i + 1, [], ?_⟩
      rw [hDn, hs]
      try simp only [go_sem, ↓reduceIte, Nat.reduceEqDiff, Nat.reduceAdd, Nat.reduceMul, Nat.reduceLeDiff, Nat.reduceLT, Nat.reduceBNe, reduceCtorEq]
      exact ⟨by omega, ⟨rfl, rfl⟩, by decide, by omega⟩
    · simp only [go_sem, ↓reduceIte, Nat.reduceEqDiff, Nat.reduceAdd, Nat.reduceMul, Nat.reduceLeDiff, Nat.reduceLT, Nat.reduceBNe, reduceCtorEq, setG, rn, e12, e11, e9, e2']
      refine ⟨_, W.in64 (by omega), i + 1, [0, 6], ?_⟩
      rw [hDn]
      try simp only [go_sem, ↓reduceIte, Nat.reduceEqDiff, Nat.reduceAdd, Nat.reduceMul, Nat.reduceLeDiff, Nat.reduceLT, Nat.reduceBNe, reduceCtorEq]
      exact ⟨by omega, ⟨⟨rfl, rfl⟩, rfl⟩, by decide, by omega⟩
  obtain rfl : i = o.length := by omega
  obtain ⟨D2, hD2⟩ : ∃ D2 : Nat → List Int, D2 = fun i => ((ms.take i).map (·.day)).foldl insI (D o.length) := ⟨_, rfl⟩
  have hD20 : D2 0 = D o.length := by rw [hD2]; rfl
  have hD2s : ∀ (i : Nat) (hi : i < ms.length), D2 (i + 1) = insI (D2 i) (ms[i]).day := fun i hi => by
    rw [hD2]
    simp only [List.take_succ_eq_append_getElem hi, List.map_append, List.foldl_append]
    rfl
  have hDn : (D o.length).length ≤ 1 + o.length := by
    have := foldI_len ((o.take o.length).map (·.day)) [0]
    rw [hD]
    simp only [List.length_map, List.length_take, List.length_cons, List.length_nil] at this ⊢
    omega
  have hD2l : ∀ i, i ≤ ms.length → (D2 i).length ≤ 1 + o.length + i := fun i hi => by
    have := foldI_len ((ms.take i).map (·.day)) (D o.length)
    rw [hD2]
    simp only [List.length_map, List.length_take] at this ⊢
    omega
  refine vcLoopR Nat (fun i => [(13, .val (.int .i64 i)), (11, .sl 1 (D2 i).length), (9, .val (.slice a o.length cap)), (2, .loc 0 0)])
    (fun i => [.box [.val (.slice ra0 rn0 rc0), .val (.int .i64 sm), .val (.int .i64 sl), .val (.string sz), .val (.int .i64 sg), .val (.int .i64 sf), .val (.slice ma ms.length mcap)], .row 3 1 ((D2 i).map (.int .i64))])
    (fun i _ => i ≤ ms.length) (fun i => ms.length - i) 0 [] ?_ ?_ ?_ ?_
  · rw [hD20]
    (try simp only [go_sem, ↓reduceIte, Nat.reduceEqDiff, Nat.reduceAdd, Nat.reduceMul, Nat.reduceLeDiff, Nat.reduceLT, Nat.reduceBNe, reduceCtorEq]) <;> (repeat' (first | rfl | trivial | constructor | (intro h; exact absurd rfl h)))
  · try simp only [go_sem, ↓reduceIte, Nat.reduceEqDiff, Nat.reduceAdd, Nat.reduceMul, Nat.reduceLeDiff, Nat.reduceLT, Nat.reduceBNe, reduceCtorEq]
  · exact Nat.zero_le _
  rintro i env R5 hle5 hE hi
  (simp only [go_sem] at hE; obtain ⟨e13, e11', e9', e2''⟩ := hE; simp only [go_sem, ↓reduceIte, Nat.reduceEqDiff, Nat.reduceAdd, Nat.reduceMul, Nat.reduceLeDiff, Nat.reduceLT, Nat.reduceBNe, reduceCtorEq, e13, e11', e9', e2'']; dsimp only at *)
  refine ⟨fun hlt => ?_, fun hge => ?_⟩
  · have hlt' : i < ms.length := by omega
    obtain ⟨ad, had, hR⟩ := hmf i hlt'
    have hcl : ∀ j u, ((ms[i]).cells)[j]? = some u → R5 ((ad.add (i * 5)).add j) u := fun j u hj => hle5 _ _ (hle4 _ _ (hle123 _ _ (hR j u hj)))
    have hDn2 := hD2s i hlt'
    refine ⟨hlt, vat ad had ?_⟩
    try simp only [go_sem, ↓reduceIte, Nat.reduceEqDiff, Nat.reduceAdd, Nat.reduceMul, Nat.reduceLeDiff, Nat.reduceLT, Nat.reduceBNe, reduceCtorEq]
    refine vload _ (hcl 0 _ rfl) ?_
    simp only [go_sem, ↓reduceIte, Nat.reduceEqDiff, Nat.reduceAdd, Nat.reduceMul, Nat.reduceLeDiff, Nat.reduceLT, Nat.reduceBNe, reduceCtorEq, e13, e11', e9', e2'']
    refine vhand [1] [.sl 0 (D2 i).length, .val (.int .i64 (ms[i]).day)] [.row 3 1 ((D2 i).map (.int .i64))] (rInsert (D2 i) (ms[i]).day (by have := hD2l i hi; omega) R5) rfl rfl rfl ?_ (by simp) rfl rfl ?_
    · try simp only [go_sem, ↓reduceIte, Nat.reduceEqDiff, Nat.reduceAdd, Nat.reduceMul, Nat.reduceLeDiff, Nat.reduceLT, Nat.reduceBNe, reduceCtorEq]
    rintro R6 bs r hle6 hpost _
    rcases hpost with ⟨hs, rfl, rfl⟩ | ⟨b1, b2, rfl, rfl⟩
    · simp only [go_sem, ↓reduceIte, Nat.reduceEqDiff, Nat.reduceAdd, Nat.reduceMul, Nat.reduceLeDiff, Nat.reduceLT, Nat.reduceBNe, reduceCtorEq, setG, rn, e13, e11', e9', e2'']
      refine ⟨_, W.in64 (by omega), i + 1, [], ?_⟩
      rw [hDn2, hs]
      try simp only [go_sem, ↓reduceIte, Nat.reduceEqDiff, Nat.reduceAdd, Nat.reduceMul, Nat.reduceLeDiff, Nat.reduceLT, Nat.reduceBNe, reduceCtorEq]
      exact ⟨by omega, ⟨rfl, rfl⟩, by decide, by omega⟩
    · simp only [go_sem, ↓reduceIte, Nat.reduceEqDiff, Nat.reduceAdd, Nat.reduceMul, Nat.reduceLeDiff, Nat.reduceLT, Nat.reduceBNe, reduceCtorEq, setG, rn, e13, e11', e9', e2'']
      refine ⟨_, W.in64 (by omega), i + 1, [0, 6], ?_⟩
      rw [hDn2]
      try simp only [go_sem, ↓reduceIte, Nat.reduceEqDiff, Nat.reduceAdd, Nat.reduceMul, Nat.reduceLeDiff, Nat.reduceLT, Nat.reduceBNe, reduceCtorEq]
      exact ⟨by omega, ⟨⟨rfl, rfl⟩, rfl⟩, by decide, by omega⟩
  obtain rfl : i = ms.length := by omega
  have hdl := hD2l ms.length (Nat.le_refl _)
  obtain ⟨days, hdays⟩ : ∃ days, days = D2 ms.length := ⟨_, rfl⟩
  have hdr : days = daysR ms o := by
    rw [hdays, hD2, hD]
    simp only [List.take_length]
    rfl
  rw [← hdays] at e11' hdl
  rw [← hdr]
  clear hD2l hDn hD2s hD20 hD2 hD hD0 hDs hDl e11 e9 e2'
  have hle5' := RO.le_trans hle123 (RO.le_trans hle4 hle5)
  have hu5 := hu0.mono (RO.le_trans hle4 hle5)
  refine cutL (fun s' => ∃ env R6 blk j pqs, s' = ⟨env, blk, R6⟩ ∧ env 14 = .sl j pqs.length ∧ blk[j]? = some (.row 62 8 (rowPq pqs)) ∧ (∀ p ∈ pqs, Pq.OK R6 p ∧ p.1.moves.length ≤ 64) ∧ pqs.length ≤ 64 ∧ pqs.map (·.1) = refR ⟨.slice ra0 rn0 rc0, sm, sl, sz, sg, sf, .slice ma ms.length mcap⟩ rl ms o days []) ?_ ?_
  · obtain ⟨F, hF⟩ : ∃ F, F = refR ⟨.slice ra0 rn0 rc0, sm, sl, sz, sg, sf, .slice ma ms.length mcap⟩ rl ms o := ⟨_, rfl⟩
    rw [← hF]
    refine vcLoopR (Nat × List Pq) (fun y => [(15, .val (.int .i64 y.1)), (11, .sl 1 days.length), (9, .val (.slice a o.length cap)), (2, .loc 0 0), (14, .sl 2 y.2.length)])
      (fun y => [.box [.val (.slice ra0 rn0 rc0), .val (.int .i64 sm), .val (.int .i64 sl), .val (.string sz), .val (.int .i64 sg), .val (.int .i64 sf), .val (.slice ma ms.length mcap)], .row 3 1 (days.map (.int .i64)), .row 62 8 (rowPq y.2)])
      (fun y R => y.1 ≤ days.length ∧ y.2.length ≤ y.1 ∧ (∀ p ∈ y.2, Pq.OK R p ∧ p.1.moves.length ≤ y.1) ∧ F (days.drop y.1) (y.2.map (·.1)) = F days []) (fun y => days.length - y.1) (0, []) [] ?_ ?_ ?_ ?_
    · (try simp only [go_sem, ↓reduceIte, Nat.reduceEqDiff, Nat.reduceAdd, Nat.reduceMul, Nat.reduceLeDiff, Nat.reduceLT, Nat.reduceBNe, reduceCtorEq]) <;> (repeat' (first | rfl | trivial | constructor | (intro h; exact absurd rfl h)))
      rw [hdays]
    · try simp only [go_sem, ↓reduceIte, Nat.reduceEqDiff, Nat.reduceAdd, Nat.reduceMul, Nat.reduceLeDiff, Nat.reduceLT, Nat.reduceBNe, reduceCtorEq]
    · exact ⟨Nat.zero_le _, Nat.le_refl _, by simp, rfl⟩
    rintro ⟨i, pqs⟩ env R6 hle6 hE ⟨hi, hpl, hpo, hgo⟩
    (simp only [go_sem] at hE; obtain ⟨e15, e11, e9, e2, e14⟩ := hE; simp only [go_sem, ↓reduceIte, Nat.reduceEqDiff, Nat.reduceAdd, Nat.reduceMul, Nat.reduceLeDiff, Nat.reduceLT, Nat.reduceBNe, reduceCtorEq, e15, e11, e9, e2, e14]; dsimp only at *)
    refine ⟨fun hlt => ?_, fun hge => ?_⟩
    · have hlt' : i < days.length := by omega
      have hdrop := List.drop_eq_getElem_cons hlt'
      rw [hdrop] at hgo
      have hle6' := RO.le_trans hle5' hle6
      refine ⟨hlt, .int .i64 days[i], by rw [List.getElem?_map, List.getElem?_eq_getElem hlt']; rfl, ?_⟩
      try simp only [go_sem, ↓reduceIte, Nat.reduceEqDiff, Nat.reduceAdd, Nat.reduceMul, Nat.reduceLeDiff, Nat.reduceLT, Nat.reduceBNe, reduceCtorEq, e15, e11, e9, e2, e14]
      refine vcall (hO _ days[i] R6 (hr0.mono hle6') (hm0.mono hle6') hpne (hu5.mono hle6) hk) ?_
      intro R7 r hle7 hr7
      obtain ⟨ok, ti, rv, mvv, mvs, rfl, hrv, hmv, hmvs, hgo2⟩ := onV_cases hr7
      rw [← hF] at hgo2
      rw [hgo2] at hgo
      have hml1 : mvs.length ≤ 1 := by
        rcases hmvs with rfl | rfl
        · simp
        · exact mvRef_len hpne _ _
      have hrv1 := hrv.one
      obtain ⟨rva, rvn, rvc, rfl⟩ := hrv.form
      obtain ⟨mva, mvcap, rfl, _⟩ := hmv.form
      simp only [Se.cells]
      (refine cutS (fun s' => s' = ?_) ?_ ?_; rotate_left; (try simp only [go_sem, ↓reduceIte, Nat.reduceEqDiff, Nat.reduceAdd, Nat.reduceMul, Nat.reduceLeDiff, Nat.reduceLT, Nat.reduceBNe, reduceCtorEq, e15, e11, e9, e2, e14]; rfl); rintro _ rfl)
      (refine cutR ?_ ?_ ?_; rotate_left; (try simp only [go_sem, ↓reduceIte, Nat.reduceEqDiff, Nat.reduceAdd, Nat.reduceMul, Nat.reduceLeDiff, Nat.reduceLT, Nat.reduceBNe, reduceCtorEq, e15, e11, e9, e2, e14]; rfl))
      (refine cutR ?_ ?_ ?_; rotate_left; (try simp only [go_sem, ↓reduceIte, Nat.reduceEqDiff, Nat.reduceAdd, Nat.reduceMul, Nat.reduceLeDiff, Nat.reduceLT, Nat.reduceBNe, reduceCtorEq, e15, e11, e9, e2, e14]; rfl))
      (refine cutR ?_ ?_ ?_; rotate_left; (try simp only [go_sem, ↓reduceIte, Nat.reduceEqDiff, Nat.reduceAdd, Nat.reduceMul, Nat.reduceLeDiff, Nat.reduceLT, Nat.reduceBNe, reduceCtorEq, e15, e11, e9, e2, e14]; rfl))
      rw [tCode_seq]
      refine cutT (fun s' => ∃ env R8 qs y, RO.le R7 R8 ∧ env 15 = .val (.int .i64 i) ∧ env 11 = .sl 1 days.length ∧ env 9 = .val (.slice a o.length cap) ∧ env 2 = .loc 0 0 ∧ env 17 = .val (.bool ok) ∧ env 18 = .val (.slice mva mvs.length mvcap) ∧
        (qs ++ [y]).map (·.1) = newPart (pqs.map (·.1)) days[i] ti ∧ qs.length ≤ i ∧ (∀ p ∈ qs ++ [y], Pq.OK R8 p ∧ p.1.moves.length ≤ i) ∧
        ((∃ b1 b2, s' = ⟨env, [.box [.val (.slice ra0 rn0 rc0), .val (.int .i64 sm), .val (.int .i64 sl), .val (.string sz), .val (.int .i64 sg), .val (.int .i64 sf), .val (.slice ma ms.length mcap)], .row 3 1 (days.map (.int .i64)), .dead, b1, b2, .row 62 8 (rowPq (qs ++ [y]))], R8⟩ ∧ env 14 = .sl 5 (qs.length + 1)) ∨ (∃ b1, s' = ⟨env, [.box [.val (.slice ra0 rn0 rc0), .val (.int .i64 sm), .val (.int .i64 sl), .val (.string sz), .val (.int .i64 sg), .val (.int .i64 sf), .val (.slice ma ms.length mcap)], .row 3 1 (days.map (.int .i64)), .row 62 8 (rowPq (qs ++ [y])), b1], R8⟩ ∧ env 14 = .sl 2 (qs.length + 1)))) ?_ ?_
      · have hnew : ∀ R8, RO.le R7 R8 → ∀ p ∈ pqs ++ [((⟨days[i], ti, []⟩ : Pa), Value.slice rva rvn rvc, Value.slice none 0 0)], Pq.OK R8 p ∧ p.1.moves.length ≤ i := fun R8 hle8 p hp => by
          rcases List.mem_append.1 hp with hp | hp
          · exact ⟨⟨(hpo p hp).1.1.mono (RO.le_trans hle7 hle8), (hpo p hp).1.2.mono (RO.le_trans hle7 hle8)⟩, (hpo p hp).2⟩
          · simp only [List.mem_cons, List.not_mem_nil, or_false] at hp
            subst hp
            exact ⟨⟨hrv.mono hle8, EncV.nil _ _ _⟩, Nat.zero_le _⟩
        have hday : (days.map (Value.int .i64))[i]? = some (.int .i64 days[i]) := by rw [List.getElem?_map, List.getElem?_eq_getElem hlt']; rfl
        obtain ⟨nw, hnw⟩ : ∃ nw : Pq, nw = (⟨days[i], ti, []⟩, .slice rva rvn rvc, .slice none 0 0) := ⟨_, rfl⟩
        rw [← hnw] at hnew
        have hnr : rowPq pqs ++ [.int .i64 days[i], .slice rva rvn rvc, .int .i64 ti.minute, .int .i64 ti.length, .string ti.zone, .int .i64 ti.gap, .int .i64 ti.fold, .slice none 0 0] = rowPq (pqs ++ [nw]) := by rw [rowPq_app, hnw]; rfl
        have hnm : (pqs ++ [nw]).map (·.1) = pqs.map (·.1) ++ [⟨days[i], ti, []⟩] := by rw [List.map_append, hnw]; rfl
        try simp only [go_sem, ↓reduceIte, Nat.reduceEqDiff, Nat.reduceAdd, Nat.reduceMul, Nat.reduceLeDiff, Nat.reduceLT, Nat.reduceBNe, reduceCtorEq, e15, e11, e9, e2, e14]
        refine ⟨fun hz => ?_, fun hnz => ?_⟩
        · refine ⟨hlt, _, hday, ?_⟩
          try simp only [go_sem, ↓reduceIte, Nat.reduceEqDiff, Nat.reduceAdd, Nat.reduceMul, Nat.reduceLeDiff, Nat.reduceLT, Nat.reduceBNe, reduceCtorEq, e15, e11, e9, e2, e14]
          refine vappO (rowPq pqs) rfl (by rw [rowPq_len]) (by omega) ?_
          try simp only [go_sem, ↓reduceIte, Nat.reduceEqDiff, Nat.reduceAdd, Nat.reduceMul, Nat.reduceLeDiff, Nat.reduceLT, Nat.reduceBNe, reduceCtorEq, e15, e11, e9, e2, e14]
          rw [hnr]
          refine ⟨_, R7, pqs, nw, RO.le_refl _, ?_, ?_, ?_, ?_, ?_, ?_, ?_, by omega, hnew R7 (RO.le_refl _), .inl ⟨_, _, rfl, ?_⟩⟩
          · try simp only [go_sem, ↓reduceIte, Nat.reduceEqDiff, Nat.reduceAdd, Nat.reduceMul, Nat.reduceLeDiff, Nat.reduceLT, Nat.reduceBNe, reduceCtorEq, e15, e11, e9, e2, e14]
          · try simp only [go_sem, ↓reduceIte, Nat.reduceEqDiff, Nat.reduceAdd, Nat.reduceMul, Nat.reduceLeDiff, Nat.reduceLT, Nat.reduceBNe, reduceCtorEq, e15, e11, e9, e2, e14]
          · try simp only [go_sem, ↓reduceIte, Nat.reduceEqDiff, Nat.reduceAdd, Nat.reduceMul, Nat.reduceLeDiff, Nat.reduceLT, Nat.reduceBNe, reduceCtorEq, e15, e11, e9, e2, e14]
          · try simp only [go_sem, ↓reduceIte, Nat.reduceEqDiff, Nat.reduceAdd, Nat.reduceMul, Nat.reduceLeDiff, Nat.reduceLT, Nat.reduceBNe, reduceCtorEq, e15, e11, e9, e2, e14]
          · try simp only [go_sem, ↓reduceIte, Nat.reduceEqDiff, Nat.reduceAdd, Nat.reduceMul, Nat.reduceLeDiff, Nat.reduceLT, Nat.reduceBNe, reduceCtorEq, e15, e11, e9, e2, e14]
          · try simp only [go_sem, ↓reduceIte, Nat.reduceEqDiff, Nat.reduceAdd, Nat.reduceMul, Nat.reduceLeDiff, Nat.reduceLT, Nat.reduceBNe, reduceCtorEq, e15, e11, e9, e2, e14]
          · have : pqs = [] := List.eq_nil_of_length_eq_zero (by omega)
            rw [hnm, this]
            rfl
          · try simp only [go_sem, ↓reduceIte, Nat.reduceEqDiff, Nat.reduceAdd, Nat.reduceMul, Nat.reduceLeDiff, Nat.reduceLT, Nat.reduceBNe, reduceCtorEq, e15, e11, e9, e2, e14]
        · obtain ⟨qs, y, hps⟩ : ∃ qs y, pqs = qs ++ [y] := by
            rcases List.eq_nil_or_concat pqs with h | ⟨qs, y, h⟩
            · exact absurd (by rw [h]; rfl) hnz
            · exact ⟨qs, y, by rw [h, List.concat_eq_append]⟩
          have hpl2 : pqs.length = qs.length + 1 := by rw [hps]; simp
          have hidx : ((pqs.length : Int) - 1).toNat = qs.length := by omega
          have hcell : ∀ j, (rowPq pqs)[qs.length * 8 + j]? = (y.cells)[j]? := fun j => by rw [hps]; exact rowPq_last qs y j
          obtain ⟨hyq, hyl⟩ := hpo y (by rw [hps]; simp)
          obtain ⟨yp, yr, ym⟩ := y
          obtain ⟨yd, yt, yms⟩ := yp
          have hyr := (hyq.1).mono hle7
          obtain ⟨yra, yrn, yrc, rfl⟩ := hyq.1.form
          have hlast : (pqs.map (·.1)).getLast? = some (⟨yd, yt, yms⟩ : Pa) := by rw [hps, List.map_append]; simp
          refine ⟨_, W.in64 (by omega), ?_⟩
          rw [hidx]
          refine ⟨by omega, by omega, _, (hcell 1).trans rfl, _, (hcell 2).trans rfl, _, (hcell 3).trans rfl, _, (hcell 4).trans rfl, _, (hcell 5).trans rfl, _, (hcell 6).trans rfl, _, (hcell 7).trans rfl, ?_⟩
          refine vcall (eSameTimes ⟨.slice yra yrn yrc, yt.minute, yt.length, yt.zone, yt.gap, yt.fold, ym⟩ ⟨.slice rva rvn rvc, ti.minute, ti.length, ti.zone, ti.gap, ti.fold, .slice none 0 0⟩ yt.rule ti.rule R7 hyr hrv) ?_
          intro R8 v hle8 hv8
          obtain rfl : v = .bool (decide (yt = ti)) := hv8
          try simp only [go_sem, ↓reduceIte, Nat.reduceEqDiff, Nat.reduceAdd, Nat.reduceMul, Nat.reduceLeDiff, Nat.reduceLT, Nat.reduceBNe, reduceCtorEq, e15, e11, e9, e2, e14]
          refine ⟨fun hne => ?_, fun heq => ?_⟩
          · refine ⟨hlt, _, hday, ?_⟩
            try simp only [go_sem, ↓reduceIte, Nat.reduceEqDiff, Nat.reduceAdd, Nat.reduceMul, Nat.reduceLeDiff, Nat.reduceLT, Nat.reduceBNe, reduceCtorEq, e15, e11, e9, e2, e14]
            refine vappO (rowPq pqs) rfl (by rw [rowPq_len]) (by omega) ?_
            try simp only [go_sem, ↓reduceIte, Nat.reduceEqDiff, Nat.reduceAdd, Nat.reduceMul, Nat.reduceLeDiff, Nat.reduceLT, Nat.reduceBNe, reduceCtorEq, e15, e11, e9, e2, e14]
            rw [hnr]
            refine ⟨_, R8, pqs, nw, hle8, ?_, ?_, ?_, ?_, ?_, ?_, ?_, by omega, hnew R8 hle8, .inl ⟨_, _, rfl, ?_⟩⟩
            · try simp only [go_sem, ↓reduceIte, Nat.reduceEqDiff, Nat.reduceAdd, Nat.reduceMul, Nat.reduceLeDiff, Nat.reduceLT, Nat.reduceBNe, reduceCtorEq, e15, e11, e9, e2, e14]
            · try simp only [go_sem, ↓reduceIte, Nat.reduceEqDiff, Nat.reduceAdd, Nat.reduceMul, Nat.reduceLeDiff, Nat.reduceLT, Nat.reduceBNe, reduceCtorEq, e15, e11, e9, e2, e14]
            · try simp only [go_sem, ↓reduceIte, Nat.reduceEqDiff, Nat.reduceAdd, Nat.reduceMul, Nat.reduceLeDiff, Nat.reduceLT, Nat.reduceBNe, reduceCtorEq, e15, e11, e9, e2, e14]
            · try simp only [go_sem, ↓reduceIte, Nat.reduceEqDiff, Nat.reduceAdd, Nat.reduceMul, Nat.reduceLeDiff, Nat.reduceLT, Nat.reduceBNe, reduceCtorEq, e15, e11, e9, e2, e14]
            · try simp only [go_sem, ↓reduceIte, Nat.reduceEqDiff, Nat.reduceAdd, Nat.reduceMul, Nat.reduceLeDiff, Nat.reduceLT, Nat.reduceBNe, reduceCtorEq, e15, e11, e9, e2, e14]
            · try simp only [go_sem, ↓reduceIte, Nat.reduceEqDiff, Nat.reduceAdd, Nat.reduceMul, Nat.reduceLeDiff, Nat.reduceLT, Nat.reduceBNe, reduceCtorEq, e15, e11, e9, e2, e14]
            · rw [hnm]
              unfold newPart
              rw [hlast]
              dsimp only
              rw [if_neg hne]
            · try simp only [go_sem, ↓reduceIte, Nat.reduceEqDiff, Nat.reduceAdd, Nat.reduceMul, Nat.reduceLeDiff, Nat.reduceLT, Nat.reduceBNe, reduceCtorEq, e15, e11, e9, e2, e14]
          · refine ⟨_, R8, qs, (⟨yd, yt, yms⟩, .slice yra yrn yrc, ym), hle8, ?_, ?_, ?_, ?_, ?_, ?_, ?_, by omega, fun p hp => ?_, .inr ⟨_, by rw [← hps], ?_⟩⟩
            · try simp only [go_sem, ↓reduceIte, Nat.reduceEqDiff, Nat.reduceAdd, Nat.reduceMul, Nat.reduceLeDiff, Nat.reduceLT, Nat.reduceBNe, reduceCtorEq, e15, e11, e9, e2, e14]
            · try simp only [go_sem, ↓reduceIte, Nat.reduceEqDiff, Nat.reduceAdd, Nat.reduceMul, Nat.reduceLeDiff, Nat.reduceLT, Nat.reduceBNe, reduceCtorEq, e15, e11, e9, e2, e14]
            · try simp only [go_sem, ↓reduceIte, Nat.reduceEqDiff, Nat.reduceAdd, Nat.reduceMul, Nat.reduceLeDiff, Nat.reduceLT, Nat.reduceBNe, reduceCtorEq, e15, e11, e9, e2, e14]
            · try simp only [go_sem, ↓reduceIte, Nat.reduceEqDiff, Nat.reduceAdd, Nat.reduceMul, Nat.reduceLeDiff, Nat.reduceLT, Nat.reduceBNe, reduceCtorEq, e15, e11, e9, e2, e14]
            · try simp only [go_sem, ↓reduceIte, Nat.reduceEqDiff, Nat.reduceAdd, Nat.reduceMul, Nat.reduceLeDiff, Nat.reduceLT, Nat.reduceBNe, reduceCtorEq, e15, e11, e9, e2, e14]
            · try simp only [go_sem, ↓reduceIte, Nat.reduceEqDiff, Nat.reduceAdd, Nat.reduceMul, Nat.reduceLeDiff, Nat.reduceLT, Nat.reduceBNe, reduceCtorEq, e15, e11, e9, e2, e14]
            · rw [← hps]
              unfold newPart
              rw [hlast]
              dsimp only
              rw [if_pos heq]
            · rw [← hps] at hp
              exact ⟨⟨(hpo p hp).1.1.mono (RO.le_trans hle7 hle8), (hpo p hp).1.2.mono (RO.le_trans hle7 hle8)⟩, (hpo p hp).2⟩
            · try simp only [go_sem, ↓reduceIte, Nat.reduceEqDiff, Nat.reduceAdd, Nat.reduceMul, Nat.reduceLeDiff, Nat.reduceLT, Nat.reduceBNe, reduceCtorEq, e15, e11, e9, e2, e14]
              rw [hpl2]
      rintro s' ⟨env, R8, qs, y, hle8, f15, f11, f9, f2, f17, f18, hnp, hql, hqo, hst⟩
      rcases hst with ⟨b1, b2, rfl, f14⟩ | ⟨b1, rfl, f14⟩
      · have hcell : (rowPq (qs ++ [y]))[qs.length * 8 + 7]? = some y.2.2 := rowPq_last qs y 7
        have hidx : (((qs.length + 1 : Nat) : Int) - 1).toNat = qs.length := by omega
        obtain ⟨hyq, hyl⟩ := hqo y (by simp)
        obtain ⟨ya, ycap, hye, _⟩ := hyq.2.form
        rw [hye] at hcell
        have hyv := hyq.2
        rw [hye] at hyv
        try simp only [go_sem, ↓reduceIte, Nat.reduceEqDiff, Nat.reduceAdd, Nat.reduceMul, Nat.reduceLeDiff, Nat.reduceLT, Nat.reduceBNe, reduceCtorEq, f15, f11, f9, f2, f17, f18, f14]
        refine ⟨_, W.in64 (by omega), ?_⟩
        rw [hidx]
        refine ⟨by omega, by omega, _, hcell, ?_⟩
        try simp only [go_sem, ↓reduceIte, Nat.reduceEqDiff, Nat.reduceAdd, Nat.reduceMul, Nat.reduceLeDiff, Nat.reduceLT, Nat.reduceBNe, reduceCtorEq, f15, f11, f9, f2, f17, f18, f14]
        refine mvSrc hyv ?_
        try simp only [go_sem, ↓reduceIte, Nat.reduceEqDiff, Nat.reduceAdd, Nat.reduceMul, Nat.reduceLeDiff, Nat.reduceLT, Nat.reduceBNe, reduceCtorEq, f15, f11, f9, f2, f17, f18, f14]
        refine vappO [] rfl rfl (by omega) ?_
        try simp only [go_sem, ↓reduceIte, Nat.reduceEqDiff, Nat.reduceAdd, Nat.reduceMul, Nat.reduceLeDiff, Nat.reduceLT, Nat.reduceBNe, reduceCtorEq, f15, f11, f9, f2, f17, f18, f14]
        refine ⟨_, W.in64 (by omega), ?_⟩
        refine mvSrc (hmv.mono hle8) ?_
        try simp only [go_sem, ↓reduceIte, Nat.reduceEqDiff, Nat.reduceAdd, Nat.reduceMul, Nat.reduceLeDiff, Nat.reduceLT, Nat.reduceBNe, reduceCtorEq, f15, f11, f9, f2, f17, f18, f14]
        refine vappO _ rfl (by rw [rowM_len]) (by omega) ?_
        try simp only [go_sem, ↓reduceIte, Nat.reduceEqDiff, Nat.reduceAdd, Nat.reduceMul, Nat.reduceLeDiff, Nat.reduceLT, Nat.reduceBNe, reduceCtorEq, f15, f11, f9, f2, f17, f18, f14]
        rw [hidx]
        refine ⟨by omega, by omega, ?_⟩
        intro b cap' R9 hle9 hrow hcap' hfr
        have hE : EncV Mv.cells 5 R9 (.slice (some ⟨b, 0, none⟩) (y.1.moves.length + mvs.length) cap') (y.1.moves ++ mvs) := by
          have h1 := RowIn.enc (enc := Mv.cells) (k := 5) (xs := y.1.moves ++ mvs) (R := R9) (b := b) (cap := cap') (fun _ => rfl) (by omega) (by rw [List.map_append, List.flatten_append]; exact hrow) (by rw [List.map_append, List.flatten_append, List.length_append]; exact hcap') (by rw [List.length_append]; omega)
          rw [List.length_append] at h1
          exact h1
        have hset := rowPq_setLast qs y (y.1.moves ++ mvs) (.slice (some ⟨b, 0, none⟩) (y.1.moves.length + mvs.length) cap')
        obtain ⟨y3, hy3⟩ : ∃ y3 : Pq, y3 = (⟨y.1.day, y.1.ti, y.1.moves ++ mvs⟩, y.2.1, .slice (some ⟨b, 0, none⟩) (y.1.moves.length + mvs.length) cap') := ⟨_, rfl⟩
        rw [← hy3] at hset
        rw [hset]
        have hadd : addLast (newPart (pqs.map (·.1)) days[i] ti) mvs = (qs ++ [y3]).map (·.1) := by
          rw [← hnp, List.map_append, List.map_append, List.map_cons, List.map_nil, addLast_snoc, hy3]
          rfl
        have hok3 : ∀ p ∈ qs ++ [y3], Pq.OK R9 p ∧ p.1.moves.length ≤ i + 1 := fun p hp => by
          rcases List.mem_append.1 hp with hp | hp
          · have h1 := hqo p (by simp [hp])
            exact ⟨⟨h1.1.1.mono hle9, h1.1.2.mono hle9⟩, by omega⟩
          · simp only [List.mem_cons, List.not_mem_nil, or_false] at hp
            subst hp
            rw [hy3]
            exact ⟨⟨hyq.1.mono hle9, hE⟩, by simp; omega⟩
        have hl3 : (qs ++ [y3]).length = qs.length + 1 := by simp
        rw [hadd] at hgo
        refine ⟨by rw [rowPq_len, List.length_append]; simp; omega, fun hok => ?_, fun hok => ?_⟩
        · rw [hok, if_neg (by simp)] at hgo
          refine ⟨_, R9, _, 5, qs ++ [y3], rfl, ?_, rfl, fun p hp => ⟨(hok3 p hp).1, by have := (hok3 p hp).2; omega⟩, by omega, hgo⟩
          try simp only [go_sem, ↓reduceIte, Nat.reduceEqDiff, Nat.reduceAdd, Nat.reduceMul, Nat.reduceLeDiff, Nat.reduceLT, Nat.reduceBNe, reduceCtorEq, f15, f11, f9, f2, f17, f18, f14, hl3]
        · rw [hok, if_pos rfl] at hgo
          refine ⟨_, W.in64 (by omega), (i + 1, qs ++ [y3]), [0, 1, 5], ?_⟩
          try simp only [go_sem, ↓reduceIte, Nat.reduceEqDiff, Nat.reduceAdd, Nat.reduceMul, Nat.reduceLeDiff, Nat.reduceLT, Nat.reduceBNe, reduceCtorEq, f15, f11, f9, f2, f17, f18, f14]
          exact ⟨by omega, rfl, by decide, by omega, by omega, hok3, hgo⟩
      · have hcell : (rowPq (qs ++ [y]))[qs.length * 8 + 7]? = some y.2.2 := rowPq_last qs y 7
        have hidx : (((qs.length + 1 : Nat) : Int) - 1).toNat = qs.length := by omega
        obtain ⟨hyq, hyl⟩ := hqo y (by simp)
        obtain ⟨ya, ycap, hye, _⟩ := hyq.2.form
        rw [hye] at hcell
        have hyv := hyq.2
        rw [hye] at hyv
        try simp only [go_sem, ↓reduceIte, Nat.reduceEqDiff, Nat.reduceAdd, Nat.reduceMul, Nat.reduceLeDiff, Nat.reduceLT, Nat.reduceBNe, reduceCtorEq, f15, f11, f9, f2, f17, f18, f14]
        refine ⟨_, W.in64 (by omega), ?_⟩
        rw [hidx]
        refine ⟨by omega, by omega, _, hcell, ?_⟩
        try simp only [go_sem, ↓reduceIte, Nat.reduceEqDiff, Nat.reduceAdd, Nat.reduceMul, Nat.reduceLeDiff, Nat.reduceLT, Nat.reduceBNe, reduceCtorEq, f15, f11, f9, f2, f17, f18, f14]
        refine mvSrc hyv ?_
        try simp only [go_sem, ↓reduceIte, Nat.reduceEqDiff, Nat.reduceAdd, Nat.reduceMul, Nat.reduceLeDiff, Nat.reduceLT, Nat.reduceBNe, reduceCtorEq, f15, f11, f9, f2, f17, f18, f14]
        refine vappO [] rfl rfl (by omega) ?_
        try simp only [go_sem, ↓reduceIte, Nat.reduceEqDiff, Nat.reduceAdd, Nat.reduceMul, Nat.reduceLeDiff, Nat.reduceLT, Nat.reduceBNe, reduceCtorEq, f15, f11, f9, f2, f17, f18, f14]
        refine ⟨_, W.in64 (by omega), ?_⟩
        refine mvSrc (hmv.mono hle8) ?_
        try simp only [go_sem, ↓reduceIte, Nat.reduceEqDiff, Nat.reduceAdd, Nat.reduceMul, Nat.reduceLeDiff, Nat.reduceLT, Nat.reduceBNe, reduceCtorEq, f15, f11, f9, f2, f17, f18, f14]
        refine vappO _ rfl (by rw [rowM_len]) (by omega) ?_
        try simp only [go_sem, ↓reduceIte, Nat.reduceEqDiff, Nat.reduceAdd, Nat.reduceMul, Nat.reduceLeDiff, Nat.reduceLT, Nat.reduceBNe, reduceCtorEq, f15, f11, f9, f2, f17, f18, f14]
        rw [hidx]
        refine ⟨by omega, by omega, ?_⟩
        intro b cap' R9 hle9 hrow hcap' hfr
        have hE : EncV Mv.cells 5 R9 (.slice (some ⟨b, 0, none⟩) (y.1.moves.length + mvs.length) cap') (y.1.moves ++ mvs) := by
          have h1 := RowIn.enc (enc := Mv.cells) (k := 5) (xs := y.1.moves ++ mvs) (R := R9) (b := b) (cap := cap') (fun _ => rfl) (by omega) (by rw [List.map_append, List.flatten_append]; exact hrow) (by rw [List.map_append, List.flatten_append, List.length_append]; exact hcap') (by rw [List.length_append]; omega)
          rw [List.length_append] at h1
          exact h1
        have hset := rowPq_setLast qs y (y.1.moves ++ mvs) (.slice (some ⟨b, 0, none⟩) (y.1.moves.length + mvs.length) cap')
        obtain ⟨y3, hy3⟩ : ∃ y3 : Pq, y3 = (⟨y.1.day, y.1.ti, y.1.moves ++ mvs⟩, y.2.1, .slice (some ⟨b, 0, none⟩) (y.1.moves.length + mvs.length) cap') := ⟨_, rfl⟩
        rw [← hy3] at hset
        rw [hset]
        have hadd : addLast (newPart (pqs.map (·.1)) days[i] ti) mvs = (qs ++ [y3]).map (·.1) := by
          rw [← hnp, List.map_append, List.map_append, List.map_cons, List.map_nil, addLast_snoc, hy3]
          rfl
        have hok3 : ∀ p ∈ qs ++ [y3], Pq.OK R9 p ∧ p.1.moves.length ≤ i + 1 := fun p hp => by
          rcases List.mem_append.1 hp with hp | hp
          · have h1 := hqo p (by simp [hp])
            exact ⟨⟨h1.1.1.mono hle9, h1.1.2.mono hle9⟩, by omega⟩
          · simp only [List.mem_cons, List.not_mem_nil, or_false] at hp
            subst hp
            rw [hy3]
            exact ⟨⟨hyq.1.mono hle9, hE⟩, by simp; omega⟩
        have hl3 : (qs ++ [y3]).length = qs.length + 1 := by simp
        rw [hadd] at hgo
        refine ⟨by rw [rowPq_len, List.length_append]; simp; omega, fun hok => ?_, fun hok => ?_⟩
        · rw [hok, if_neg (by simp)] at hgo
          refine ⟨_, R9, _, 2, qs ++ [y3], rfl, ?_, rfl, fun p hp => ⟨(hok3 p hp).1, by have := (hok3 p hp).2; omega⟩, by omega, hgo⟩
          try simp only [go_sem, ↓reduceIte, Nat.reduceEqDiff, Nat.reduceAdd, Nat.reduceMul, Nat.reduceLeDiff, Nat.reduceLT, Nat.reduceBNe, reduceCtorEq, f15, f11, f9, f2, f17, f18, f14, hl3]
        · rw [hok, if_pos rfl] at hgo
          refine ⟨_, W.in64 (by omega), (i + 1, qs ++ [y3]), [0, 1, 2], ?_⟩
          try simp only [go_sem, ↓reduceIte, Nat.reduceEqDiff, Nat.reduceAdd, Nat.reduceMul, Nat.reduceLeDiff, Nat.reduceLT, Nat.reduceBNe, reduceCtorEq, f15, f11, f9, f2, f17, f18, f14]
          exact ⟨by omega, rfl, by decide, by omega, by omega, hok3, hgo⟩
    · obtain rfl : i = days.length := by omega
      refine ⟨_, _, _, 2, pqs, rfl, by try simp only [go_sem, ↓reduceIte, Nat.reduceEqDiff, Nat.reduceAdd, Nat.reduceMul, Nat.reduceLeDiff, Nat.reduceLT, Nat.reduceBNe, reduceCtorEq, e14], rfl, fun p hp => ⟨(hpo p hp).1, by have := (hpo p hp).2; omega⟩, by omega, ?_⟩
      rw [← hgo, List.drop_length, hF]
      rfl
  rintro s' ⟨env, R6, blk, j, pqs, rfl, e14, hbj, hpo, hpl, hgo⟩
  try simp only [go_sem, ↓reduceIte, Nat.reduceEqDiff, Nat.reduceAdd, Nat.reduceMul, Nat.reduceLeDiff, Nat.reduceLT, Nat.reduceBNe, reduceCtorEq, e14]
  refine ⟨fun h => by omega, fun _ => ?_⟩
  refine vcLoopR Nat (fun i => [(21, .val (.int .i64 i)), (14, .sl 0 pqs.length)]) (fun _ => [.row 62 8 (rowPq pqs)]) (fun i _ => i ≤ pqs.length) (fun i => pqs.length - i) 0 [j] ?_ ?_ ?_ ?_
  · (try simp only [go_sem, ↓reduceIte, Nat.reduceEqDiff, Nat.reduceAdd, Nat.reduceMul, Nat.reduceLeDiff, Nat.reduceLT, Nat.reduceBNe, reduceCtorEq]) <;> (repeat' (first | rfl | trivial | constructor | (intro h; exact absurd rfl h)))
    all_goals first | exact e14 | exact hbj
  · rfl
  · exact Nat.zero_le _
  rintro i env R7 hle7 hE hi
  (simp only [go_sem] at hE; obtain ⟨e21, e14⟩ := hE; simp only [go_sem, ↓reduceIte, Nat.reduceEqDiff, Nat.reduceAdd, Nat.reduceMul, Nat.reduceLeDiff, Nat.reduceLT, Nat.reduceBNe, reduceCtorEq, e21, e14]; dsimp only at *)
  refine ⟨fun hlt => ?_, fun hge => ?_⟩
  · have hlt' : i < pqs.length := by omega
    have hcell : (rowPq pqs)[i * 8 + 7]? = some (pqs[i]).2.2 := rowPq_get pqs i 7 hlt' (by omega)
    obtain ⟨hq, hql⟩ := hpo _ (List.getElem_mem hlt')
    obtain ⟨ya, ycap, hye, _⟩ := hq.2.form
    rw [hye] at hcell
    refine ⟨hlt, _, hcell, ?_⟩
    simp only [go_sem, ↓reduceIte, Nat.reduceEqDiff, Nat.reduceAdd, Nat.reduceMul, Nat.reduceLeDiff, Nat.reduceLT, Nat.reduceBNe, reduceCtorEq, e21, e14]
    refine ⟨fun h => by omega, fun _ => ?_⟩
    refine ⟨_, W.in64 (by omega), i + 1, [], ?_⟩
    try simp only [go_sem, ↓reduceIte, Nat.reduceEqDiff, Nat.reduceAdd, Nat.reduceMul, Nat.reduceLeDiff, Nat.reduceLT, Nat.reduceBNe, reduceCtorEq]
    exact ⟨by omega, rfl, rfl, by omega⟩
  intro b cap1 R8 hle8 hrow hcap1 hfr
  have hsl := RowIn.slK hrow (rowPq_cl pqs) (by omega) hcap1
  rw [List.length_map] at hsl
  refine ⟨_, rfl, _, hsl, by rw [List.length_map, ← hgo, List.length_map], fun i c p hc hp => ?_, by rw [← hgo, List.length_map]; omega⟩
  rw [List.getElem?_map] at hc
  obtain ⟨q, hq, rfl⟩ := Option.map_eq_some_iff.1 hc
  rw [← hgo, List.getElem?_map, hq] at hp
  simp only [Option.map_some, Option.some.injEq] at hp
  subst hp
  have h1 := (hpo q (List.mem_of_getElem? hq)).1
  exact ⟨q.2.1, q.2.2, rfl, h1.1.mono (RO.le_trans hle7 hle8), h1.2.mono (RO.le_trans hle7 hle8)⟩
end Go.Proofs.YtpnhiknfcpkfbaaGreat
