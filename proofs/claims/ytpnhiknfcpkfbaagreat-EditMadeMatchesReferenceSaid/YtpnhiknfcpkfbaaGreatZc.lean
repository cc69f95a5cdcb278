import Derived.Test.YtpnhiknfcpkfbaaGreatZa
import Derived.Test.YtpnhiknfcpkfbaaGreatEu
import Derived.Test.YtpnhiknfcpkfbaaGreatZi
import Derived.Test.YtpnhiknfcpkfbaaGreatCt
import Derived.Test.YtpnhiknfcpkfbaaGreatFr
namespace Go.Proofs.YtpnhiknfcpkfbaaGreat
set_option linter.unusedSimpArgs false
set_option linter.unusedVariables false
open Go.Proofs.YtpnhiknfcpkfbaaGreat.Vc
/-! ### The reference's list of all edits -/
theorem rowP_take (ps : List Pl) (n : Nat) : (rowP ps).take (n * 13) = rowP (ps.take n) := by
  induction ps generalizing n with
  | nil => simp [rowP]
  | cons p ps ih =>
    cases n with
    | zero => simp [rowP]
    | succ n =>
      have h1 : rowP (p :: ps) = p.ed.cells ++ rowP ps := by simp [rowP]
      have h2 : rowP ((p :: ps).take (n + 1)) = p.ed.cells ++ rowP (ps.take n) := by simp [rowP]
      have hl : p.ed.cells.length = 13 := rfl
      rw [h1, h2, ← ih n, show (n + 1) * 13 = p.ed.cells.length + n * 13 by rw [hl]; omega, List.take_append, List.take_of_length_le (by omega)]
      congr 2; omega
theorem rowP_drop (ps : List Pl) (n : Nat) : (rowP ps).drop (n * 13) = rowP (ps.drop n) := by
  induction ps generalizing n with
  | nil => simp [rowP]
  | cons p ps ih =>
    cases n with
    | zero => simp
    | succ n =>
      have h1 : rowP (p :: ps) = p.ed.cells ++ rowP ps := by simp [rowP]
      have hl : p.ed.cells.length = 13 := rfl
      rw [h1, List.drop_succ_cons, ← ih n, List.drop_append, List.drop_of_length_le (by rw [hl]; omega), List.nil_append, hl]
      congr 1; omega
theorem rowP_app (ps qs : List Pl) : rowP (ps ++ qs) = rowP ps ++ rowP qs := by simp [rowP]
theorem rowP_one (ps : List Pl) : ∀ u ∈ rowP ps, u.oneCell' = true := fun u hu => by
  obtain ⟨c, hc, hu⟩ := List.mem_flatten.1 hu
  obtain ⟨p, _, rfl⟩ := List.mem_map.1 hc
  exact edcells_one _ u hu
set_option maxHeartbeats 1000000 in
theorem rSorted (ds : List De) (v : Value) (R : RO) (h : EdsV R v ds) (hv : ∀ d ∈ ds, validD d = true) (hc : ∀ a ∈ ds, ∀ b ∈ ds, keyEq a b = true → a = b) (hsz : ds.length ≤ 100000000) :
    CallsR Tryz.prog 26 [v] R fun R' r => ∃ u, r = .tuple #[u, .bool true] ∧ EdsV R' u (ds.foldl insD []) := by
  obtain ⟨a, cap, rfl, hcap, hf⟩ := PlOK.of h
  refine callsT mix Tryz.func26 comp26 (by simp [Tryz.ntmps26]) ?_; simp only [go_sem, ↓reduceIte, Nat.reduceEqDiff, Nat.reduceAdd, Nat.reduceMul, Nat.reduceLeDiff, Nat.reduceLT, Nat.reduceBNe, reduceCtorEq, vc26, rs26]
  refine vcLoopR (Nat × List Pl) (fun x => [(5, .val (.int .i64 x.1)), (0, .val (.slice a ds.length cap)), (4, .sl 0 x.2.length)])
    (fun x => [.row 28 13 (rowP x.2)])
    (fun x R => x.1 ≤ ds.length ∧ x.2.map (·.1) = (ds.take x.1).foldl insD [] ∧ x.2.length ≤ x.1 ∧ (∀ p ∈ x.2, p.1 ∈ ds) ∧ ∀ p ∈ x.2, PlOK R p) (fun x => ds.length - x.1) (0, []) [] ?_ ?_ ?_ ?_
  · (try simp only [go_sem, ↓reduceIte, Nat.reduceEqDiff, Nat.reduceAdd, Nat.reduceMul, Nat.reduceLeDiff, Nat.reduceLT, Nat.reduceBNe, reduceCtorEq]) <;> (repeat' (first | rfl | trivial | constructor | (intro h; exact absurd rfl h)))
  · try simp only [go_sem, ↓reduceIte, Nat.reduceEqDiff, Nat.reduceAdd, Nat.reduceMul, Nat.reduceLeDiff, Nat.reduceLT, Nat.reduceBNe, reduceCtorEq]
  · exact ⟨Nat.zero_le _, rfl, Nat.le_refl _, by simp, by simp⟩
  rintro ⟨i, ps⟩ env R1 hle1 hE ⟨hi, hps, hpl, hpm, hpo⟩
  (simp only [go_sem] at hE; obtain ⟨e5, e0, e4⟩ := hE; simp only [go_sem, ↓reduceIte, Nat.reduceEqDiff, Nat.reduceAdd, Nat.reduceMul, Nat.reduceLeDiff, Nat.reduceLT, Nat.reduceBNe, reduceCtorEq, e5, e0, e4]; dsimp only at *)
  refine ⟨fun hlt => ⟨hlt, ?_⟩, fun hge => ?_⟩
  · have hlt' : i < ds.length := by omega
    obtain ⟨ad, p, had, hp1, hR, hpok⟩ := hf i hlt'
    have hcells : ∀ j u, (p.ed.cells)[j]? = some u → R1 ((ad.add (i * 13)).add j) u := fun j u hj => hle1 _ _ (hR j u hj)
    have hpd : p.1 ∈ ds := by rw [hp1]; exact List.getElem_mem hlt'
    refine vat ad had ?_
    try simp only [go_sem, ↓reduceIte, Nat.reduceEqDiff, Nat.reduceAdd, Nat.reduceMul, Nat.reduceLeDiff, Nat.reduceLT, Nat.reduceBNe, reduceCtorEq]
    refine vloadn p.ed.cells rfl hcells ?_
    simp only [go_sem, ↓reduceIte, Nat.reduceEqDiff, Nat.reduceAdd, Nat.reduceMul, Nat.reduceLeDiff, Nat.reduceLT, Nat.reduceBNe, reduceCtorEq, Ed.cells, Pl.ed, De.ed, e5, e0, e4]
    refine vcall (rValid p.ed R1) ?_
    rintro R2 v hle2 rfl
    try simp only [go_sem, ↓reduceIte, Nat.reduceEqDiff, Nat.reduceAdd, Nat.reduceMul, Nat.reduceLeDiff, Nat.reduceLT, Nat.reduceBNe, reduceCtorEq]
    rw [validE_ed p hpok.len, hv _ hpd]
    try simp only [go_sem, ↓reduceIte, Nat.reduceEqDiff, Nat.reduceAdd, Nat.reduceMul, Nat.reduceLeDiff, Nat.reduceLT, Nat.reduceBNe, reduceCtorEq]
    obtain ⟨out, hout⟩ : ∃ out, out = ps.map (·.1) := ⟨_, rfl⟩
    have hol : out.length = ps.length := by rw [hout]; simp
    have hog : ∀ (j : Nat) (hj : j < ps.length), out[j]'(by omega) = (ps[j]).1 := fun j hj => by simp [hout]
    have hale := insAt_le out p.1
    have hstep : (ds.take (i + 1)).foldl insD [] = insD out p.1 := by
      rw [List.take_succ_eq_append_getElem hlt', List.foldl_append, ← hps, hout, ← hp1]; rfl
    refine cutL (fun s' => ∃ env R, s' = ⟨env, [.row 28 13 (rowP ps)], R⟩ ∧ RO.le R2 R ∧ env 7 = .val (.int .i64 (insAt out p.1)) ∧ env 5 = .val (.int .i64 i) ∧ env 0 = .val (.slice a ds.length cap) ∧ env 4 = .sl 0 ps.length) ?_ ?_
    · refine vcLoop Nat (fun k => [(7, .val (.int .i64 k)), (5, .val (.int .i64 i)), (0, .val (.slice a ds.length cap)), (4, .sl 0 ps.length)])
        (fun _ => [.row 28 13 (rowP ps)]) (fun k _ => k ≤ insAt out p.1) (fun k => ps.length - k) 0 ?_ ?_ ?_ ?_
      · (try simp only [go_sem, ↓reduceIte, Nat.reduceEqDiff, Nat.reduceAdd, Nat.reduceMul, Nat.reduceLeDiff, Nat.reduceLT, Nat.reduceBNe, reduceCtorEq]) <;> (repeat' (first | rfl | trivial | constructor | (intro h; exact absurd rfl h)))
      · try simp only [go_sem, ↓reduceIte, Nat.reduceEqDiff, Nat.reduceAdd, Nat.reduceMul, Nat.reduceLeDiff, Nat.reduceLT, Nat.reduceBNe, reduceCtorEq]
      · exact Nat.zero_le _
      rintro k env R3 hle3 hE hk
      (simp only [go_sem] at hE; obtain ⟨e7, e5', e0', e4'⟩ := hE; simp only [go_sem, ↓reduceIte, Nat.reduceEqDiff, Nat.reduceAdd, Nat.reduceMul, Nat.reduceLeDiff, Nat.reduceLT, Nat.reduceBNe, reduceCtorEq, e7, e5', e0', e4']; dsimp only at *)
      have hR3 : ∀ j u, (p.ed.cells)[j]? = some u → R3 ((ad.add (i * 13)).add j) u := fun j u hj => hle3 _ _ (hle2 _ _ (hcells j u hj))
      refine ⟨fun hkl => ?_, fun hkg => ?_⟩
      · have hkn : k < ps.length := by omega
        obtain ⟨q, hq⟩ : ∃ q, q = ps[k] := ⟨_, rfl⟩
        have hcell : ∀ (c : Nat), c < 13 → (rowP ps)[k * 13 + c]? = (q.ed.cells)[c]? := fun c hc => by rw [hq]; exact rowP_get ps k c hkn hc
        refine ⟨hkl, _, (hcell 0 (by omega)).trans rfl, _, (hcell 1 (by omega)).trans rfl, _, (hcell 2 (by omega)).trans rfl, _, (hcell 3 (by omega)).trans rfl, _, (hcell 4 (by omega)).trans rfl, _, (hcell 5 (by omega)).trans rfl, _, (hcell 6 (by omega)).trans rfl, _, (hcell 7 (by omega)).trans rfl, _, (hcell 8 (by omega)).trans rfl, _, (hcell 9 (by omega)).trans rfl, _, (hcell 10 (by omega)).trans rfl, _, (hcell 11 (by omega)).trans rfl, _, (hcell 12 (by omega)).trans rfl, by omega, vat ad had ?_⟩
        try simp only [go_sem, ↓reduceIte, Nat.reduceEqDiff, Nat.reduceAdd, Nat.reduceMul, Nat.reduceLeDiff, Nat.reduceLT, Nat.reduceBNe, reduceCtorEq]
        refine vloadn p.ed.cells rfl hR3 ?_
        simp only [go_sem, ↓reduceIte, Nat.reduceEqDiff, Nat.reduceAdd, Nat.reduceMul, Nat.reduceLeDiff, Nat.reduceLT, Nat.reduceBNe, reduceCtorEq, Ed.cells, Pl.ed, De.ed, e7, e5', e0', e4']
        refine vcall (rLess q.ed p.ed R3) ?_
        rintro R4 v hle4 rfl
        simp only [go_sem, ↓reduceIte, Nat.reduceEqDiff, Nat.reduceAdd, Nat.reduceMul, Nat.reduceLeDiff, Nat.reduceLT, Nat.reduceBNe, reduceCtorEq, e7, e5', e0', e4']
        have hqd : lessE q.ed p.ed = lessD (out[k]'(by omega)) p.1 := by rw [hog k hkn, ← hq]; rfl
        rw [hqd]
        refine ⟨fun hl => ?_, fun hl => ?_⟩
        · refine ⟨_, W.in64 (by omega), k + 1, by omega, by constructor, ?_⟩
          rcases Nat.lt_or_ge k (insAt out p.1) with h1 | h1
          · exact h1
          · exfalso
            obtain rfl : k = insAt out p.1 := by omega
            rw [insAt_not (by omega)] at hl
            cases hl
        · have hka : k = insAt out p.1 := by
            rcases Nat.lt_or_ge k (insAt out p.1) with h1 | h1
            · rw [insAt_less h1 (by omega)] at hl; cases hl
            · omega
          rw [← hka]
          exact ⟨_, _, rfl, RO.le_trans hle3 hle4, e7, e5', e0', e4'⟩
      · have hka : k = insAt out p.1 := by omega
        rw [← hka]
        exact ⟨_, _, rfl, hle3, e7, e5', e0', e4'⟩
    rintro s' ⟨env, R3, rfl, hle3, e7, e5', e0', e4'⟩
    have hR3 : ∀ j u, (p.ed.cells)[j]? = some u → R3 ((ad.add (i * 13)).add j) u := fun j u hj => hle3 _ _ (hle2 _ _ (hcells j u hj))
    obtain ⟨k, hk⟩ : ∃ k, k = insAt out p.1 := ⟨_, rfl⟩
    rw [← hk] at e7 hale
    rw [tCode_seq]
    refine cutT (fun s' => ∃ env R, s' = ⟨env, [.row 28 13 (rowP ps)], R⟩ ∧ RO.le R3 R ∧ (out[k]?).any (fun q => keyEq q p.1) = false ∧ env 7 = .val (.int .i64 k) ∧ env 5 = .val (.int .i64 i) ∧ env 0 = .val (.slice a ds.length cap) ∧ env 4 = .sl 0 ps.length) ?_ ?_
    · try simp only [go_sem, ↓reduceIte, Nat.reduceEqDiff, Nat.reduceAdd, Nat.reduceMul, Nat.reduceLeDiff, Nat.reduceLT, Nat.reduceBNe, reduceCtorEq, e7, e5', e0', e4']
      refine ⟨fun hkl => ?_, fun hkg => ?_⟩
      · have hkn : k < ps.length := by omega
        obtain ⟨q, hq⟩ : ∃ q, q = ps[k] := ⟨_, rfl⟩
        have hcell : ∀ (c : Nat), c < 13 → (rowP ps)[k * 13 + c]? = (q.ed.cells)[c]? := fun c hc => by rw [hq]; exact rowP_get ps k c hkn hc
        have hok : out[k]? = some q.1 := by rw [List.getElem?_eq_getElem (by omega), hog k hkn, hq]
        rw [hok]
        have hkey : keyEq q.1 p.1 = decide (q.1.device = p.1.device ∧ q.1.seq = p.1.seq) := rfl
        have hqm : q ∈ ps := by rw [hq]; exact List.getElem_mem hkn
        refine ⟨hkl, _, (hcell 3 (by omega)).trans rfl, by omega, vat ad had ?_⟩
        try simp only [go_sem, ↓reduceIte, Nat.reduceEqDiff, Nat.reduceAdd, Nat.reduceMul, Nat.reduceLeDiff, Nat.reduceLT, Nat.reduceBNe, reduceCtorEq]
        refine vload _ (hR3 3 _ rfl) ?_
        simp only [go_sem, ↓reduceIte, Nat.reduceEqDiff, Nat.reduceAdd, Nat.reduceMul, Nat.reduceLeDiff, Nat.reduceLT, Nat.reduceBNe, reduceCtorEq, Pl.ed, De.ed, e7, e5', e0', e4']
        refine ⟨fun hs => ?_, fun hs => ?_⟩
        · refine ⟨hkl, _, (hcell 2 (by omega)).trans rfl, by omega, vat ad had ?_⟩
          try simp only [go_sem, ↓reduceIte, Nat.reduceEqDiff, Nat.reduceAdd, Nat.reduceMul, Nat.reduceLeDiff, Nat.reduceLT, Nat.reduceBNe, reduceCtorEq]
          refine vload _ (hR3 2 _ rfl) ?_
          simp only [go_sem, ↓reduceIte, Nat.reduceEqDiff, Nat.reduceAdd, Nat.reduceMul, Nat.reduceLeDiff, Nat.reduceLT, Nat.reduceBNe, reduceCtorEq, Pl.ed, De.ed, e7, e5', e0', e4']
          refine ⟨fun hd => ?_, fun hd => ?_⟩
          · have hqp : q.1 = p.1 := hc _ (hpm q hqm) _ hpd (by rw [hkey]; simp [hd, hs])
            refine ⟨hkl, _, (hcell 0 (by omega)).trans rfl, _, (hcell 1 (by omega)).trans rfl, _, (hcell 2 (by omega)).trans rfl, _, (hcell 3 (by omega)).trans rfl, _, (hcell 4 (by omega)).trans rfl, _, (hcell 5 (by omega)).trans rfl, _, (hcell 6 (by omega)).trans rfl, _, (hcell 7 (by omega)).trans rfl, _, (hcell 8 (by omega)).trans rfl, _, (hcell 9 (by omega)).trans rfl, _, (hcell 10 (by omega)).trans rfl, _, (hcell 11 (by omega)).trans rfl, _, (hcell 12 (by omega)).trans rfl, by omega, vat ad had ?_⟩
            try simp only [go_sem, ↓reduceIte, Nat.reduceEqDiff, Nat.reduceAdd, Nat.reduceMul, Nat.reduceLeDiff, Nat.reduceLT, Nat.reduceBNe, reduceCtorEq]
            refine vloadn p.ed.cells rfl hR3 ?_
            simp only [go_sem, ↓reduceIte, Nat.reduceEqDiff, Nat.reduceAdd, Nat.reduceMul, Nat.reduceLeDiff, Nat.reduceLT, Nat.reduceBNe, reduceCtorEq, Ed.cells, Pl.ed, De.ed, e7, e5', e0', e4']
            refine vcall (eSameR q.1 p.1 q.ed.cells p.ed.cells R3 ((hpo q hqm).mono (RO.le_trans hle2 hle3)).edV (hpok.mono (RO.le_trans hle1 (RO.le_trans hle2 hle3))).edV) ?_
            rintro R4 v hle4 rfl
            rw [hqp]
            simp only [go_sem, ↓reduceIte, Nat.reduceEqDiff, Nat.reduceAdd, Nat.reduceMul, Nat.reduceLeDiff, Nat.reduceLT, Nat.reduceBNe, reduceCtorEq, e7, e5', e0', e4']
            refine ⟨_, W.in64 (by omega), (i + 1, ps), [], ?_⟩
            try simp only [go_sem, ↓reduceIte, Nat.reduceEqDiff, Nat.reduceAdd, Nat.reduceMul, Nat.reduceLeDiff, Nat.reduceLT, Nat.reduceBNe, reduceCtorEq]
            refine ⟨by omega, rfl, by decide, by omega, ?_, by omega, hpm, fun x hx => (hpo x hx).mono (RO.le_trans hle2 (RO.le_trans hle3 hle4))⟩
            rw [hstep]
            unfold insD
            rw [← hk, hok, if_pos (by rw [hqp]; simp [keyEq]), hout]
          · exact ⟨_, _, rfl, RO.le_refl _, by simp [hkey, hd], e7, e5', e0', e4'⟩
        · exact ⟨_, _, rfl, RO.le_refl _, by simp [hkey, hs], e7, e5', e0', e4'⟩
      · exact ⟨_, _, rfl, RO.le_refl _, by rw [List.getElem?_eq_none (by omega)]; rfl, e7, e5', e0', e4'⟩
    rintro s' ⟨env, R4, rfl, hle4, hnk, e7, e5, e0, e4⟩
    have hins : insD out p.1 = out.take k ++ p.1 :: out.drop k := by
      unfold insD
      rw [← hk, if_neg (by rw [hnk]; simp)]
    have hkl : k ≤ ps.length := by omega
    have hR4 : ∀ j u, (p.ed.cells)[j]? = some u → R4 ((ad.add (i * 13)).add j) u := fun j u hj => hle4 _ _ (hR3 j u hj)
    rw [tCode_seq]
    refine cutT (fun s' => ∃ env, s' = ⟨env, [.row 28 13 (rowP ps), .dead, .row 28 13 (rowP (ps.drop k))], R4⟩ ∧ env 9 = .sl 2 (ps.length - k) ∧ env 7 = .val (.int .i64 k) ∧ env 5 = .val (.int .i64 i) ∧ env 0 = .val (.slice a ds.length cap) ∧ env 4 = .sl 0 ps.length) ?_ ?_
    · try simp only [go_sem, ↓reduceIte, Nat.reduceEqDiff, Nat.reduceAdd, Nat.reduceMul, Nat.reduceLeDiff, Nat.reduceLT, Nat.reduceBNe, reduceCtorEq, e7, e5, e0, e4]
      refine ⟨k, ps.length, rfl, rfl, by omega, ⟨_, _, ⟨rfl, rfl⟩, by rw [rowP_len]; omega⟩, ?_⟩
      by_cases hk0 : k = 0
      · rw [if_pos hk0]
        subst hk0
        try simp only [go_sem, ↓reduceIte, Nat.reduceEqDiff, Nat.reduceAdd, Nat.reduceMul, Nat.reduceLeDiff, Nat.reduceLT, Nat.reduceBNe, reduceCtorEq, e7, e5, e0, e4]
        refine ⟨by rw [rowP_len]; omega, fun u hu => rowP_one ps u hu, ?_⟩
        refine vappO [] rfl rfl (by omega) ?_
        try simp only [go_sem, ↓reduceIte, Nat.reduceEqDiff, Nat.reduceAdd, Nat.reduceMul, Nat.reduceLeDiff, Nat.reduceLT, Nat.reduceBNe, reduceCtorEq, e7, e5, e0, e4]
        rw [List.take_of_length_le (by rw [rowP_len]; omega)]
        exact ⟨_, rfl, rfl, e7, e5, e0, e4⟩
      · rw [if_neg hk0]
        try simp only [go_sem, ↓reduceIte, Nat.reduceEqDiff, Nat.reduceAdd, Nat.reduceMul, Nat.reduceLeDiff, Nat.reduceLT, Nat.reduceBNe, reduceCtorEq, e7, e5, e0, e4]
        refine ⟨by rw [rowP_len]; omega, fun u hu => rowP_one ps u hu, ?_⟩
        refine vappO [] rfl rfl (by omega) ?_
        try simp only [go_sem, ↓reduceIte, Nat.reduceEqDiff, Nat.reduceAdd, Nat.reduceMul, Nat.reduceLeDiff, Nat.reduceLT, Nat.reduceBNe, reduceCtorEq, e7, e5, e0, e4]
        rw [rowP_drop, List.take_of_length_le (by rw [rowP_len, List.length_drop]; omega)]
        exact ⟨_, rfl, rfl, e7, e5, e0, e4⟩
    rintro s' ⟨env, rfl, e9, e7, e5, e0, e4⟩
    try simp only [go_sem, ↓reduceIte, Nat.reduceEqDiff, Nat.reduceAdd, Nat.reduceMul, Nat.reduceLeDiff, Nat.reduceLT, Nat.reduceBNe, reduceCtorEq, e9, e7, e5, e0, e4]
    refine ⟨0, k, rfl, rfl, by omega, ⟨_, _, ⟨rfl, rfl⟩, by rw [rowP_len]; omega⟩, by omega, vat ad had ?_⟩
    try simp only [go_sem, ↓reduceIte, Nat.reduceEqDiff, Nat.reduceAdd, Nat.reduceMul, Nat.reduceLeDiff, Nat.reduceLT, Nat.reduceBNe, reduceCtorEq]
    refine vloadn p.ed.cells rfl hR4 ?_
    simp only [go_sem, ↓reduceIte, Nat.reduceEqDiff, Nat.reduceAdd, Nat.reduceMul, Nat.reduceLeDiff, Nat.reduceLT, Nat.reduceBNe, reduceCtorEq, Ed.cells, Pl.ed, De.ed, e9, e7, e5, e0, e4]
    refine vappP (rowP (ps.take k)) (rowP ps) rfl (by rw [← rowP_take]; exact List.take_prefix _ _) (by rw [rowP_len, List.length_take]; congr 1; omega) (by omega) ?_
    simp only [go_sem, ↓reduceIte, Nat.reduceEqDiff, Nat.reduceAdd, Nat.reduceMul, Nat.reduceLeDiff, Nat.reduceLT, Nat.reduceBNe, reduceCtorEq, Ed.cells, Pl.ed, De.ed, e9, e7, e5, e0, e4]
    refine ⟨by rw [rowP_len, List.length_drop]; omega, fun u hu => rowP_one _ u hu, ?_⟩
    refine vappO _ rfl (by rw [List.length_append, rowP_len, List.length_take]; simp; omega) (by omega) ?_
    simp only [go_sem, ↓reduceIte, Nat.reduceEqDiff, Nat.reduceAdd, Nat.reduceMul, Nat.reduceLeDiff, Nat.reduceLT, Nat.reduceBNe, reduceCtorEq, e9, e7, e5, e0, e4]
    refine ⟨_, W.in64 (by omega), (i + 1, ps.take k ++ p :: ps.drop k), [5], ?_⟩
    have hlen2 : (ps.take k ++ p :: ps.drop k).length = k + 1 + (ps.length - k) := by simp; omega
    rw [hlen2]
    try simp only [go_sem, ↓reduceIte, Nat.reduceEqDiff, Nat.reduceAdd, Nat.reduceMul, Nat.reduceLeDiff, Nat.reduceLT, Nat.reduceBNe, reduceCtorEq]
    have hmem : ∀ x ∈ ps.take k ++ p :: ps.drop k, x = p ∨ x ∈ ps := fun x hx => by
      rcases List.mem_append.1 hx with h1 | h1
      · exact .inr (List.mem_of_mem_take h1)
      · rcases List.mem_cons.1 h1 with h1 | h1
        · exact .inl h1
        · exact .inr (List.mem_of_mem_drop h1)
    refine ⟨by omega, ?_, by decide, by omega, ?_, by omega, fun x hx => ?_, fun x hx => ?_⟩
    · have ht : (rowP (ps.drop k)).take ((ps.length - k) * 13) = rowP (ps.drop k) := List.take_of_length_le (by rw [rowP_len, List.length_drop]; omega)
      refine ⟨rfl, ?_⟩
      rw [ht, rowP_app, List.append_assoc]
      rfl
    · rw [hstep, hins, hout]
      simp
    · rcases hmem x hx with rfl | hx
      · exact hpd
      · exact hpm x hx
    · rcases hmem x hx with rfl | hx
      · exact hpok.mono (RO.le_trans hle1 (RO.le_trans hle2 (RO.le_trans hle3 hle4)))
      · exact (hpo x hx).mono (RO.le_trans hle2 (RO.le_trans hle3 hle4))
  · intro b cap1 R2 hle2 hrow hcap1 hfr
    obtain rfl : i = ds.length := by omega
    rw [List.take_length] at hps
    rw [← hps]
    exact ⟨_, rfl, EdsV.row hrow hcap1 (fun p hp => (hpo p hp).mono hle2) (by omega)⟩
end Go.Proofs.YtpnhiknfcpkfbaaGreat
namespace Go.Proofs.YtpnhiknfcpkfbaaGreat
set_option linter.unusedSimpArgs false
set_option linter.unusedVariables false
open Go.Proofs.YtpnhiknfcpkfbaaGreat.Vc
/-! ### The reference's Rebase -/
theorem rAll (ds o : List De) (v : Value) (R : RO) (h : EdsV R v ds) (hc : Cons ds) (hl : ds.length ≤ 4096) (ho : allD ds = .ok o) :
    CallsR Tryz.prog 26 [v] R fun R' r => ∃ u, r = .tuple #[u, .bool true] ∧ EdsV R' u o := by
  have := rSorted ds v R h hc.1 hc.2 (by omega)
  rw [insAll hc hl ho] at this
  exact this
theorem idxE_step (p : De → Bool) (o : List De) (m : Nat) (hm : m < o.length) : idxE p m (o.drop m) = if p o[m] = true then (m : Int) else idxE p (m + 1) (o.drop (m + 1)) := by
  rw [List.drop_eq_getElem_cons hm, idxE]
set_option maxHeartbeats 1000000 in
theorem rRebase (ds o : List De) (v : Value) (R : RO) (h : EdsV R v ds) (hc : Cons ds) (hl : ds.length ≤ 4096) (ho : allD ds = .ok o) :
    CallsR Tryz.prog 8 [v] R fun R' r => ∃ u w, r = .agg #[u, w, .int .i64 0] ∧ EdsV R' u (forceD o) ∧ EncV Ov.cells 4 R' w (recsD o) := by
  have hS := rAll ds o v R h hc hl ho
  obtain ⟨a0, cap0, rfl, _⟩ := h.form
  refine callsT mix Tryz.func8 comp8 (by simp [Tryz.ntmps8]) ?_; simp only [go_sem, ↓reduceIte, Nat.reduceEqDiff, Nat.reduceAdd, Nat.reduceMul, Nat.reduceLeDiff, Nat.reduceLT, Nat.reduceBNe, reduceCtorEq, vc8, rs8]
  refine ⟨fun hgt => by omega, fun _ => ?_⟩
  refine vcall hS ?_
  rintro R1 r hle1 ⟨u, rfl, hu⟩
  have hol : o.length ≤ 1000000000 := by obtain ⟨_, _, _, _, h⟩ := hu; exact h
  obtain ⟨a, cap, rfl, hcap, hf⟩ := PlOK.of hu
  try simp only [go_sem, ↓reduceIte, Nat.reduceEqDiff, Nat.reduceAdd, Nat.reduceMul, Nat.reduceLeDiff, Nat.reduceLT, Nat.reduceBNe, reduceCtorEq]
  refine vcLoopR (Nat × List Pl × List Ov) (fun x => [(6, .val (.int .i64 x.1)), (3, .val (.slice a o.length cap)), (2, .loc 0 0), (5, .loc 1 0)])
    (fun x => [.box [.val (.slice none 0 0), .val (.slice none 0 0), .val (.int .i64 0)], .box [gs 2 x.2.1.length, gs 3 x.2.2.length, .val (.int .i64 0)], gb 28 13 (rowP x.2.1), gb 60 4 (rowO x.2.2)])
    (fun x R => x.1 ≤ o.length ∧ x.2.1.map (·.1) = (o.take x.1).filter (fun a => !(o.any (overD a))) ∧ x.2.2 = (o.take x.1).filterMap (fun a => (o.find? (overD a)).map (ovOf a)) ∧ x.2.1.length ≤ x.1 ∧ x.2.2.length ≤ x.1 ∧ ∀ p ∈ x.2.1, PlOK R p) (fun x => o.length - x.1) (0, [], []) [] ?_ ?_ ?_ ?_
  · (try simp only [go_sem, ↓reduceIte, Nat.reduceEqDiff, Nat.reduceAdd, Nat.reduceMul, Nat.reduceLeDiff, Nat.reduceLT, Nat.reduceBNe, reduceCtorEq]) <;> (repeat' (first | rfl | trivial | constructor | (intro h; exact absurd rfl h)))
  · try simp only [go_sem, ↓reduceIte, Nat.reduceEqDiff, Nat.reduceAdd, Nat.reduceMul, Nat.reduceLeDiff, Nat.reduceLT, Nat.reduceBNe, reduceCtorEq]
  · exact ⟨Nat.zero_le _, rfl, rfl, Nat.le_refl _, Nat.le_refl _, by simp⟩
  rintro ⟨i, ps, os⟩ env R2 hle2 hE ⟨hi, hps, hos, hpl, hol2, hpo⟩
  (simp only [go_sem] at hE; obtain ⟨e6, e3, e2, e5⟩ := hE; simp only [go_sem, ↓reduceIte, Nat.reduceEqDiff, Nat.reduceAdd, Nat.reduceMul, Nat.reduceLeDiff, Nat.reduceLT, Nat.reduceBNe, reduceCtorEq, e6, e3, e2, e5]; dsimp only at *)
  refine ⟨fun hlt => ?_, fun hge => ?_⟩
  · have hlt' : i < o.length := by omega
    obtain ⟨ad, p, had, hp1, hR, hpok⟩ := hf i hlt'
    have hflt := filter_snoc (fun a => !(o.any (overD a))) o i hlt'
    have hflm := filterMap_snoc (fun a => (o.find? (overD a)).map (ovOf a)) o i hlt'
    rw [← hp1] at hflt hflm
    refine ⟨_, W.in64 (by omega), ?_⟩
    refine vcLoop Nat (fun m => [(8, .val (.int .i64 ((m : Int) - 1))), (7, .val (.int .i64 (idxE (overD p.1) m (o.drop m)))), (6, .val (.int .i64 i)), (3, .val (.slice a o.length cap)), (2, .loc 0 0), (5, .loc 1 0)])
      (fun _ => [.box [.val (.slice none 0 0), .val (.slice none 0 0), .val (.int .i64 0)], .box [gs 2 ps.length, gs 3 os.length, .val (.int .i64 0)], gb 28 13 (rowP ps), gb 60 4 (rowO os)]) (fun m _ => m ≤ o.length) (fun m => m) o.length ?_ ?_ ?_ ?_
    · (try simp only [go_sem, ↓reduceIte, Nat.reduceEqDiff, Nat.reduceAdd, Nat.reduceMul, Nat.reduceLeDiff, Nat.reduceLT, Nat.reduceBNe, reduceCtorEq]) <;> (repeat' (first | rfl | trivial | constructor | (intro h; exact absurd rfl h)))
      · rw [List.drop_length]; rfl
      all_goals exact fun h0 => gb_ne h0
    · try simp only [go_sem, ↓reduceIte, Nat.reduceEqDiff, Nat.reduceAdd, Nat.reduceMul, Nat.reduceLeDiff, Nat.reduceLT, Nat.reduceBNe, reduceCtorEq]
    · exact Nat.le_refl _
    rintro m env R3 hle3 hE hm
    (simp only [go_sem] at hE; obtain ⟨e8, e7, e6', e3', e2', e5'⟩ := hE; simp only [go_sem, ↓reduceIte, Nat.reduceEqDiff, Nat.reduceAdd, Nat.reduceMul, Nat.reduceLeDiff, Nat.reduceLT, Nat.reduceBNe, reduceCtorEq, e8, e7, e6', e3', e2', e5']; dsimp only at *)
    have hle23 := RO.le_trans hle2 hle3
    refine ⟨fun hge => ?_, fun hlt0 => ?_⟩
    · have hm1 : m - 1 < o.length := by omega
      have hti : ((m : Int) - 1).toNat = m - 1 := by omega
      obtain ⟨adb, q, hadb, hq1, hRq, hqok⟩ := hf (m - 1) hm1
      have hstep := idxE_step (overD p.1) o (m - 1) hm1
      rw [show m - 1 + 1 = m by omega, ← hq1] at hstep
      refine ⟨by omega, vat ad had ?_⟩
      try simp only [go_sem, ↓reduceIte, Nat.reduceEqDiff, Nat.reduceAdd, Nat.reduceMul, Nat.reduceLeDiff, Nat.reduceLT, Nat.reduceBNe, reduceCtorEq]
      refine vloadn p.ed.cells rfl (fun j u hj => hle23 _ _ (hR j u hj)) ?_
      simp only [go_sem, ↓reduceIte, Nat.reduceEqDiff, Nat.reduceAdd, Nat.reduceMul, Nat.reduceLeDiff, Nat.reduceLT, Nat.reduceBNe, reduceCtorEq, Ed.cells, Pl.ed, De.ed, e8, e7, e6', e3', e2', e5']
      rw [hti]
      refine ⟨by omega, by omega, vat adb hadb ?_⟩
      try simp only [go_sem, ↓reduceIte, Nat.reduceEqDiff, Nat.reduceAdd, Nat.reduceMul, Nat.reduceLeDiff, Nat.reduceLT, Nat.reduceBNe, reduceCtorEq]
      refine vloadn q.ed.cells rfl (fun j u hj => hle23 _ _ (hRq j u hj)) ?_
      simp only [go_sem, ↓reduceIte, Nat.reduceEqDiff, Nat.reduceAdd, Nat.reduceMul, Nat.reduceLeDiff, Nat.reduceLT, Nat.reduceBNe, reduceCtorEq, Ed.cells, Pl.ed, De.ed, e8, e7, e6', e3', e2', e5']
      refine vcall (rOverrules p.ed q.ed R3) ?_
      rintro R4 v hle4 rfl
      simp only [go_sem, ↓reduceIte, Nat.reduceEqDiff, Nat.reduceAdd, Nat.reduceMul, Nat.reduceLeDiff, Nat.reduceLT, Nat.reduceBNe, reduceCtorEq, e8, e7, e6', e3', e2', e5']
      rw [show overE p.ed q.ed = overD p.1 q.1 from rfl]
      refine ⟨fun ho1 => ?_, fun ho1 => ?_⟩
      · refine ⟨_, W.in64 (by omega), m - 1, by omega, ⟨⟨?_, ?_⟩, fun h0 => gb_ne h0, fun h0 => gb_ne h0⟩, by omega⟩
        · congr 2; omega
        · rw [hstep, if_pos ho1]
          congr 2; omega
      · refine ⟨_, W.in64 (by omega), m - 1, by omega, ⟨⟨?_, ?_⟩, fun h0 => gb_ne h0, fun h0 => gb_ne h0⟩, by omega⟩
        · congr 2; omega
        · rw [hstep, if_neg (by rw [ho1]; simp)]
    · obtain rfl : m = 0 := by omega
      rw [List.drop_zero] at e7
      simp only [go_sem, ↓reduceIte, Nat.reduceEqDiff, Nat.reduceAdd, Nat.reduceMul, Nat.reduceLeDiff, Nat.reduceLT, Nat.reduceBNe, reduceCtorEq, e7]
      have hpo3 : ∀ q ∈ ps, PlOK R3 q := fun q hq => (hpo q hq).mono hle3
      refine ⟨fun hn => ?_, fun hn => ?_⟩
      · have hany : o.any (overD p.1) = false := by
          cases hf : o.find? (overD p.1) with
          | none => rw [List.any_eq_false]; exact fun x hx => List.find?_eq_none.1 hf x hx
          | some b => obtain ⟨j, hj, _⟩ := idxE_pos (i := 0) hf; omega
        have hfind : o.find? (overD p.1) = none := List.find?_eq_none.2 (List.any_eq_false.1 hany)
        rw [hany, if_pos (by rfl)] at hflt
        rw [hfind] at hflm
        refine ⟨hlt, vat ad had ?_⟩
        try simp only [go_sem, ↓reduceIte, Nat.reduceEqDiff, Nat.reduceAdd, Nat.reduceMul, Nat.reduceLeDiff, Nat.reduceLT, Nat.reduceBNe, reduceCtorEq]
        refine vloadn p.ed.cells rfl (fun j u hj => hle23 _ _ (hR j u hj)) ?_
        simp only [go_sem, ↓reduceIte, Nat.reduceEqDiff, Nat.reduceAdd, Nat.reduceMul, Nat.reduceLeDiff, Nat.reduceLT, Nat.reduceBNe, reduceCtorEq, Ed.cells, Pl.ed, De.ed, e8, e6', e3', e2', e5']
        refine vgrow (rowP ps) (fun h0 => by rw [gb_ne h0]; rfl) (fun h0 => by rw [h0, gb_nil]; rfl) (by rw [rowP_len]) (by omega) (by omega) (by omega) ?_
        simp only [go_sem, ↓reduceIte, Nat.reduceEqDiff, Nat.reduceAdd, Nat.reduceMul, Nat.reduceLeDiff, Nat.reduceLT, Nat.reduceBNe, reduceCtorEq, e8, e6', e3', e2', e5']
        refine ⟨_, W.in64 (by omega), (i + 1, ps ++ [p], os), [0, 1, 5, 3], ?_⟩
        try simp only [go_sem, ↓reduceIte, Nat.reduceEqDiff, Nat.reduceAdd, Nat.reduceMul, Nat.reduceLeDiff, Nat.reduceLT, Nat.reduceBNe, reduceCtorEq]
        refine ⟨by omega, ?_, by decide, by omega, by rw [hflt, ← hps]; simp, by rw [hflm, hos]; simp, by omega, by omega, fun q hq => ?_⟩
        · exact ⟨rfl, fun _ => by rw [rowP_snoc]; rfl, fun h0 => gb_ne h0⟩
        rcases List.mem_append.1 hq with hq | hq
        · exact hpo3 q hq
        · simp only [List.mem_cons, List.not_mem_nil, or_false] at hq; subst hq; exact hpok.mono hle23
      · have hany : o.any (overD p.1) = true := by
          cases ha : o.any (overD p.1) with
          | true => rfl
          | false => rw [idxE_neg ha] at hn; omega
        obtain ⟨b, hb⟩ : ∃ b, o.find? (overD p.1) = some b := by
          cases hf : o.find? (overD p.1) with
          | none => rw [List.find?_eq_none] at hf; rw [List.any_eq_true] at hany; obtain ⟨x, hx, hx'⟩ := hany; exact absurd hx' (hf x hx)
          | some b => exact ⟨b, rfl⟩
        rw [hany, if_neg (by simp)] at hflt
        rw [hb] at hflm
        obtain ⟨j, hj, hbj⟩ := idxE_pos (i := 0) hb
        rw [Nat.zero_add] at hj
        obtain ⟨hjl, hbe⟩ := List.getElem?_eq_some_iff.1 hbj
        obtain ⟨adb, q, hadb, hq1, hRq, _⟩ := hf j hjl
        rw [hbe] at hq1
        have hcq : ∀ k u, (q.ed.cells)[k]? = some u → R3 ((adb.add (j * 13)).add k) u := fun k u hk => hle23 _ _ (hRq k u hk)
        have hcp : ∀ k u, (p.ed.cells)[k]? = some u → R3 ((ad.add (i * 13)).add k) u := fun k u hk => hle23 _ _ (hR k u hk)
        rw [hj] at e7
        refine ⟨hlt, vat ad had ?_⟩
        try simp only [go_sem, ↓reduceIte, Nat.reduceEqDiff, Nat.reduceAdd, Nat.reduceMul, Nat.reduceLeDiff, Nat.reduceLT, Nat.reduceBNe, reduceCtorEq]
        refine vload _ (hcp 2 _ rfl) ?_
        simp only [go_sem, ↓reduceIte, Nat.reduceEqDiff, Nat.reduceAdd, Nat.reduceMul, Nat.reduceLeDiff, Nat.reduceLT, Nat.reduceBNe, reduceCtorEq, e8, e6', e3', e2', e5']
        refine ⟨hlt, vat ad had ?_⟩
        try simp only [go_sem, ↓reduceIte, Nat.reduceEqDiff, Nat.reduceAdd, Nat.reduceMul, Nat.reduceLeDiff, Nat.reduceLT, Nat.reduceBNe, reduceCtorEq]
        refine vload _ (hcp 3 _ rfl) ?_
        simp only [go_sem, ↓reduceIte, Nat.reduceEqDiff, Nat.reduceAdd, Nat.reduceMul, Nat.reduceLeDiff, Nat.reduceLT, Nat.reduceBNe, reduceCtorEq, e8, e7, e6', e3', e2', e5']
        refine ⟨by omega, vat adb hadb ?_⟩
        try simp only [go_sem, ↓reduceIte, Nat.reduceEqDiff, Nat.reduceAdd, Nat.reduceMul, Nat.reduceLeDiff, Nat.reduceLT, Nat.reduceBNe, reduceCtorEq]
        refine vload _ (hcq 2 _ rfl) ?_
        simp only [go_sem, ↓reduceIte, Nat.reduceEqDiff, Nat.reduceAdd, Nat.reduceMul, Nat.reduceLeDiff, Nat.reduceLT, Nat.reduceBNe, reduceCtorEq, e8, e7, e6', e3', e2', e5']
        refine ⟨by omega, vat adb hadb ?_⟩
        try simp only [go_sem, ↓reduceIte, Nat.reduceEqDiff, Nat.reduceAdd, Nat.reduceMul, Nat.reduceLeDiff, Nat.reduceLT, Nat.reduceBNe, reduceCtorEq]
        refine vload _ (hcq 3 _ rfl) ?_
        simp only [go_sem, ↓reduceIte, Nat.reduceEqDiff, Nat.reduceAdd, Nat.reduceMul, Nat.reduceLeDiff, Nat.reduceLT, Nat.reduceBNe, reduceCtorEq, Ed.cells, Pl.ed, De.ed, e8, e7, e6', e3', e2', e5']
        refine vgrow (rowO os) (fun h0 => by rw [gb_ne h0]; rfl) (fun h0 => by rw [h0, gb_nil]; rfl) (by rw [rowO_len]) (by omega) (by omega) (by omega) ?_
        simp only [go_sem, ↓reduceIte, Nat.reduceEqDiff, Nat.reduceAdd, Nat.reduceMul, Nat.reduceLeDiff, Nat.reduceLT, Nat.reduceBNe, reduceCtorEq, e8, e7, e6', e3', e2', e5']
        refine ⟨_, W.in64 (by omega), (i + 1, ps, os ++ [ovOf p.1 b]), [0, 1, 2, 5], ?_⟩
        try simp only [go_sem, ↓reduceIte, Nat.reduceEqDiff, Nat.reduceAdd, Nat.reduceMul, Nat.reduceLeDiff, Nat.reduceLT, Nat.reduceBNe, reduceCtorEq]
        exact ⟨by omega, ⟨rfl, fun h0 => gb_ne h0, fun _ => by rw [rowO_snoc, ← hq1]; rfl⟩, by decide, by omega, by rw [hflt, ← hps]; simp, by rw [hflm, hos]; simp, by omega, by omega, hpo3⟩
  · obtain rfl : i = o.length := by omega
    rw [List.take_length] at hps hos
    have hF0 : ∀ R', RO.le R2 R' → ps = [] → EdsV R' (.slice none 0 0) (forceD o) := fun R' _ h0 => by
      unfold forceD; rw [← hps, h0]; exact EdsV.nil R'
    have hO0 : ∀ R', RO.le R2 R' → os = [] → EncV Ov.cells 4 R' (.slice none 0 0) (recsD o) := fun R' _ h0 => by
      unfold recsD; rw [← hos, h0]; exact EncV.nil _ _ R'
    have hF1 : ∀ R' b cap, RO.le R2 R' → RowIn R' b (rowP ps) → (rowP ps).length ≤ cap * 13 → EdsV R' (.slice (some ⟨b, 0, none⟩) ps.length cap) (forceD o) := fun R' b cap hle hrow hcap => by
      unfold forceD
      rw [← hps]
      exact EdsV.row hrow hcap (fun p hp => (hpo p hp).mono hle) (by omega)
    have hO1 : ∀ R' b cap, RowIn R' b (rowO os) → (rowO os).length ≤ cap * 4 → EncV Ov.cells 4 R' (.slice (some ⟨b, 0, none⟩) os.length cap) (recsD o) := fun R' b cap hrow hcap => by
      unfold recsD; rw [← hos]; exact RowIn.enc (fun _ => rfl) (by omega) hrow hcap (by omega)
    have hgP : ps.length ≠ 0 → gb 28 13 (rowP ps) = .row 28 13 (rowP ps) := fun h1 => gb_ne (fun e => h1 (by have := rowP_len ps; rw [e] at this; simp at this; omega))
    have hgO : os.length ≠ 0 → gb 60 4 (rowO os) = .row 60 4 (rowO os) := fun h2 => gb_ne (fun e => h2 (by have := rowO_len os; rw [e] at this; simp at this; omega))
    by_cases h1 : ps.length = 0
    · have hp0 := List.eq_nil_of_length_eq_zero h1
      rw [h1]
      by_cases h2 : os.length = 0
      · rw [h2]
        try simp only [go_sem, ↓reduceIte, Nat.reduceEqDiff, Nat.reduceAdd, Nat.reduceMul, Nat.reduceLeDiff, Nat.reduceLT, Nat.reduceBNe, reduceCtorEq, e2, e5]
        exact ⟨_, _, rfl, hF0 _ (RO.le_refl _) hp0, hO0 _ (RO.le_refl _) (List.eq_nil_of_length_eq_zero h2)⟩
      · rw [gs_pos h2, hgO h2]
        try simp only [go_sem, ↓reduceIte, Nat.reduceEqDiff, Nat.reduceAdd, Nat.reduceMul, Nat.reduceLeDiff, Nat.reduceLT, Nat.reduceBNe, reduceCtorEq, e2, e5]
        intro b cap' R3 hle3 hrow hcap hfr
        try simp only [go_sem, ↓reduceIte, Nat.reduceEqDiff, Nat.reduceAdd, Nat.reduceMul, Nat.reduceLeDiff, Nat.reduceLT, Nat.reduceBNe, reduceCtorEq, e2, e5]
        exact ⟨_, _, rfl, hF0 _ hle3 hp0, hO1 _ _ _ hrow hcap⟩
    · rw [gs_pos h1, hgP h1]
      try simp only [go_sem, ↓reduceIte, Nat.reduceEqDiff, Nat.reduceAdd, Nat.reduceMul, Nat.reduceLeDiff, Nat.reduceLT, Nat.reduceBNe, reduceCtorEq, e2, e5]
      intro b cap' R3 hle3 hrow hcap hfr
      by_cases h2 : os.length = 0
      · rw [h2]
        try simp only [go_sem, ↓reduceIte, Nat.reduceEqDiff, Nat.reduceAdd, Nat.reduceMul, Nat.reduceLeDiff, Nat.reduceLT, Nat.reduceBNe, reduceCtorEq, e2, e5]
        exact ⟨_, _, rfl, hF1 _ _ _ hle3 hrow hcap, hO0 _ hle3 (List.eq_nil_of_length_eq_zero h2)⟩
      · rw [gs_pos h2, hgO h2]
        try simp only [go_sem, ↓reduceIte, Nat.reduceEqDiff, Nat.reduceAdd, Nat.reduceMul, Nat.reduceLeDiff, Nat.reduceLT, Nat.reduceBNe, reduceCtorEq, e2, e5]
        intro b' cap'' R4 hle4 hrow' hcap2 hfr'
        try simp only [go_sem, ↓reduceIte, Nat.reduceEqDiff, Nat.reduceAdd, Nat.reduceMul, Nat.reduceLeDiff, Nat.reduceLT, Nat.reduceBNe, reduceCtorEq, e2, e5]
        exact ⟨_, _, rfl, (hF1 _ _ _ hle3 hrow hcap).mono hle4, hO1 _ _ _ hrow' hcap2⟩
end Go.Proofs.YtpnhiknfcpkfbaaGreat
namespace Go.Proofs.YtpnhiknfcpkfbaaGreat
set_option linter.unusedSimpArgs false
set_option linter.unusedVariables false
open Go.Proofs.YtpnhiknfcpkfbaaGreat.Vc
/-! ### The reference's On -/
def goneOn (x : Int) (d : De) : Bool := decide (d.kind = 5) && decide (d.day ≤ x)
/-- What On returns. -/
def OnV (R : RO) (r : Value) (s : Se) (rl : List Nd) (ms : List Mv) (o : List De) (x : Int) : Prop :=
  if o.any (goneOn x) = true then r = .tuple #[.agg Se.zero.cells.toArray, .bool false]
  else ∃ rv mv, r = .tuple #[.agg (Se.cells ⟨rv, (onE x (s.on rl) o).minute, (onE x (s.on rl) o).length, (onE x (s.on rl) o).zone, s.gap, s.fold, mv⟩).toArray, .bool true] ∧ RuleV R rv (onE x (s.on rl) o).rule ∧ EncV Mv.cells 5 R mv (mvRef ms o x)
theorem filt_last {ms : List Mv} (hp : ms.Pairwise fun a b => a.day ≠ b.day) {x : Int} {i : Nat} (hi : i < ms.length) (hx : ms[i].day = x) : (ms.take i).filter (fun m => decide (m.day = x)) = [] := by
  rw [List.filter_eq_nil_iff]
  intro m hm
  obtain ⟨j, hj, rfl⟩ := List.mem_take_iff_getElem.1 hm
  have := List.pairwise_iff_getElem.1 hp j i (by omega) hi (by omega)
  simp; omega
set_option maxHeartbeats 1000000 in
theorem rOn (s : Se) (rl : List Nd) (ms : List Mv) (o : List De) (v : Value) (x : Int) (R : RO) (hr : RuleV R s.rule rl) (hm : EncV Mv.cells 5 R s.moves ms) (hp : ms.Pairwise fun a b => a.day ≠ b.day) (h : EdsV R v o) (hk : ∀ d ∈ o, 1 ≤ d.kind ∧ d.kind ≤ 5) :
    CallsR Tryz.prog 34 [.agg s.cells.toArray, v, .int .i64 x] R fun R' r => OnV R' r s rl ms o x := by
  have hml := hm.2
  have hol : o.length ≤ 1000000000 := by obtain ⟨_, _, _, _, h⟩ := h; exact h
  have hsr := hr.one
  obtain ⟨sr, sm, sl, sz, sg, sf, smv⟩ := s
  dsimp only at hr hm hsr
  obtain ⟨ra0, rn0, rc0, rfl⟩ := hr.form
  obtain ⟨ma, mcap, rfl, hmc, hmf⟩ := hm.form
  obtain ⟨a, cap, rfl, hcap, hf⟩ := PlOK.of h
  simp only [Se.cells]
  refine callsT mix Tryz.func34 comp34 (by simp [Tryz.ntmps34]) ?_; simp only [go_sem, ↓reduceIte, Nat.reduceEqDiff, Nat.reduceAdd, Nat.reduceMul, Nat.reduceLeDiff, Nat.reduceLT, Nat.reduceBNe, reduceCtorEq, vc34, rs34]
  refine vcLoopR (Nat × List Mv) (fun y => [(9, .val (.int .i64 y.1)), (3, .loc 0 0), (6, .loc 1 0), (8, .loc 2 0), (1, .val (.slice a o.length cap)), (2, .val (.int .i64 x)), (7, .val (.bool false))])
    (fun y => [.box [.val (.slice ra0 rn0 rc0), .val (.int .i64 sm), .val (.int .i64 sl), .val (.string sz), .val (.int .i64 sg), .val (.int .i64 sf), .val (.slice ma ms.length mcap)],
      .box [.val (.slice none 0 0), .val (.int .i64 0), .val (.int .i64 0), .val (.string ⟨#[]⟩), .val (.int .i64 0), .val (.int .i64 0), .val (.slice none 0 0)],
      .box [.val (.slice ra0 rn0 rc0), .val (.int .i64 sm), .val (.int .i64 sl), .val (.string sz), .val (.int .i64 sg), .val (.int .i64 sf), gs 3 y.2.length], gb 24 5 (rowM y.2)])
    (fun y _ => y.1 ≤ ms.length ∧ y.2 = (ms.take y.1).filter (fun m => decide (m.day = x))) (fun y => ms.length - y.1) (0, []) [] ?_ ?_ ?_ ?_
  · (try simp only [go_sem, ↓reduceIte, Nat.reduceEqDiff, Nat.reduceAdd, Nat.reduceMul, Nat.reduceLeDiff, Nat.reduceLT, Nat.reduceBNe, reduceCtorEq]) <;> (repeat' (first | rfl | trivial | constructor | (intro h; exact absurd rfl h)))
  · try simp only [go_sem, ↓reduceIte, Nat.reduceEqDiff, Nat.reduceAdd, Nat.reduceMul, Nat.reduceLeDiff, Nat.reduceLT, Nat.reduceBNe, reduceCtorEq]
  · exact ⟨Nat.zero_le _, rfl⟩
  rintro ⟨i, mv⟩ env R1 hle1 hE ⟨hi, hmv⟩
  (simp only [go_sem] at hE; obtain ⟨e9, e3, e6, e8, e1, e2, e7⟩ := hE; simp only [go_sem, ↓reduceIte, Nat.reduceEqDiff, Nat.reduceAdd, Nat.reduceMul, Nat.reduceLeDiff, Nat.reduceLT, Nat.reduceBNe, reduceCtorEq, e9, e3, e6, e8, e1, e2, e7]; dsimp only at *)
  refine ⟨fun hlt => ?_, fun hge => ?_⟩
  · have hlt' : i < ms.length := by omega
    obtain ⟨ad, had, hR⟩ := hmf i hlt'
    have hcl : ∀ j u, ((ms[i]).cells)[j]? = some u → R1 ((ad.add (i * 5)).add j) u := fun j u hj => hle1 _ _ (hR j u hj)
    have hflt := filter_snoc (fun m => decide (m.day = x)) ms i hlt'
    refine ⟨hlt, vat ad had ?_⟩
    try simp only [go_sem, ↓reduceIte, Nat.reduceEqDiff, Nat.reduceAdd, Nat.reduceMul, Nat.reduceLeDiff, Nat.reduceLT, Nat.reduceBNe, reduceCtorEq]
    refine vload _ (hcl 0 _ rfl) ?_
    simp only [go_sem, ↓reduceIte, Nat.reduceEqDiff, Nat.reduceAdd, Nat.reduceMul, Nat.reduceLeDiff, Nat.reduceLT, Nat.reduceBNe, reduceCtorEq, e9, e3, e6, e8, e1, e2, e7]
    refine ⟨fun hd => ?_, fun hd => ?_⟩
    · rw [filt_last hp hlt' hd, if_pos (by simpa using hd), List.nil_append] at hflt
      refine ⟨hlt, vat ad had ?_⟩
      try simp only [go_sem, ↓reduceIte, Nat.reduceEqDiff, Nat.reduceAdd, Nat.reduceMul, Nat.reduceLeDiff, Nat.reduceLT, Nat.reduceBNe, reduceCtorEq]
      refine vloadn (ms[i]).cells rfl hcl ?_
      simp only [go_sem, ↓reduceIte, Nat.reduceEqDiff, Nat.reduceAdd, Nat.reduceMul, Nat.reduceLeDiff, Nat.reduceLT, Nat.reduceBNe, reduceCtorEq, Mv.cells, e9, e3, e6, e8, e1, e2, e7]
      refine ⟨_, W.in64 (by omega), (i + 1, [ms[i]]), [0, 1, 2, 4], ?_⟩
      try simp only [go_sem, ↓reduceIte, Nat.reduceEqDiff, Nat.reduceAdd, Nat.reduceMul, Nat.reduceLeDiff, Nat.reduceLT, Nat.reduceBNe, reduceCtorEq]
      exact ⟨by omega, ⟨rfl, fun _ => rfl⟩, by decide, by omega, hflt.symm⟩
    · rw [if_neg (by simpa using hd), List.append_nil] at hflt
      refine ⟨_, W.in64 (by omega), (i + 1, mv), [], ?_⟩
      try simp only [go_sem, ↓reduceIte, Nat.reduceEqDiff, Nat.reduceAdd, Nat.reduceMul, Nat.reduceLeDiff, Nat.reduceLT, Nat.reduceBNe, reduceCtorEq]
      exact ⟨by omega, ⟨rfl, fun h0 => gb_ne h0⟩, by decide, by omega, by rw [hflt]; exact hmv⟩
  obtain rfl : i = ms.length := by omega
  rw [List.take_length] at hmv
  have hst : OnV = OnV := rfl
  refine vcLoopR (Nat × Value × List Mv) (fun y => [(10, .val (.int .i64 y.1)), (3, .loc 0 0), (6, .loc 1 0), (8, .loc 2 0), (1, .val (.slice a o.length cap)), (2, .val (.int .i64 x)), (7, .val (.bool false))])
    (fun y => [.box [.val (.slice ra0 rn0 rc0), .val (.int .i64 sm), .val (.int .i64 sl), .val (.string sz), .val (.int .i64 sg), .val (.int .i64 sf), .val (.slice ma ms.length mcap)],
      .box [.val (.slice none 0 0), .val (.int .i64 0), .val (.int .i64 0), .val (.string ⟨#[]⟩), .val (.int .i64 0), .val (.int .i64 0), .val (.slice none 0 0)],
      .box [.val y.2.1, .val (.int .i64 (onE x ⟨rl, sm, sl, sz⟩ (o.take y.1)).minute), .val (.int .i64 (onE x ⟨rl, sm, sl, sz⟩ (o.take y.1)).length), .val (.string (onE x ⟨rl, sm, sl, sz⟩ (o.take y.1)).zone), .val (.int .i64 sg), .val (.int .i64 sf), gs 3 y.2.2.length], gb 24 5 (rowM y.2.2)])
    (fun y R => y.1 ≤ o.length ∧ RuleV R y.2.1 (onE x ⟨rl, sm, sl, sz⟩ (o.take y.1)).rule ∧ y.2.2 = mvRef ms (o.take y.1) x ∧ (o.take y.1).any (goneOn x) = false ∧ y.2.2.length ≤ 1000000000) (fun y => o.length - y.1) (0, .slice ra0 rn0 rc0, mv) [] ?_ ?_ ?_ ?_
  · (try simp only [go_sem, ↓reduceIte, Nat.reduceEqDiff, Nat.reduceAdd, Nat.reduceMul, Nat.reduceLeDiff, Nat.reduceLT, Nat.reduceBNe, reduceCtorEq]) <;> (repeat' (first | rfl | trivial | constructor | (intro h; exact absurd rfl h)))
    exact fun h0 => gb_ne h0
  · try simp only [go_sem, ↓reduceIte, Nat.reduceEqDiff, Nat.reduceAdd, Nat.reduceMul, Nat.reduceLeDiff, Nat.reduceLT, Nat.reduceBNe, reduceCtorEq]
  · exact ⟨Nat.zero_le _, hr.mono hle1, hmv, rfl, by rw [hmv]; exact Nat.le_trans (List.length_filter_le _ _) hml⟩
  rintro ⟨i, rv, mv2⟩ env R2 hle2 hE ⟨hi2, hrv, hmv2, hgone, hmvl⟩
  (simp only [go_sem] at hE; obtain ⟨e10, e3', e6', e8', e1', e2', e7'⟩ := hE; simp only [go_sem, ↓reduceIte, Nat.reduceEqDiff, Nat.reduceAdd, Nat.reduceMul, Nat.reduceLeDiff, Nat.reduceLT, Nat.reduceBNe, reduceCtorEq, e10, e3', e6', e8', e1', e2', e7']; dsimp only at *)
  refine ⟨fun hlt => ⟨hlt, ?_⟩, fun hge => ?_⟩
  · have hlt' : i < o.length := by omega
    obtain ⟨ad, p, had, hp1, hR, hpok⟩ := hf i hlt'
    have hle12 := RO.le_trans hle1 hle2
    have htk := List.take_succ_eq_append_getElem hlt'
    rw [← hp1] at htk
    have hrv1 := hrv.one
    refine vat ad had ?_
    try simp only [go_sem, ↓reduceIte, Nat.reduceEqDiff, Nat.reduceAdd, Nat.reduceMul, Nat.reduceLeDiff, Nat.reduceLT, Nat.reduceBNe, reduceCtorEq]
    refine vloadn p.ed.cells rfl (fun j u hj => hle12 _ _ (hR j u hj)) ?_
    simp only [go_sem, ↓reduceIte, Nat.reduceEqDiff, Nat.reduceAdd, Nat.reduceMul, Nat.reduceLeDiff, Nat.reduceLT, Nat.reduceBNe, reduceCtorEq, Ed.cells, Pl.ed, De.ed, e10, e3', e6', e8', e1', e2', e7']
    have hon : onE x ⟨rl, sm, sl, sz⟩ (o.take (i + 1)) = stepOn x (onE x ⟨rl, sm, sl, sz⟩ (o.take i)) p.1 := by rw [htk, onE_snoc]
    have hms : mvRef ms (o.take (i + 1)) x = mvStep x mv2 p.1 := by rw [htk, hmv2]; unfold mvRef; rw [List.foldl_append]; rfl
    have hga : (o.take (i + 1)).any (goneOn x) = goneOn x p.1 := by rw [htk, List.any_append, hgone]; simp
    have hkd := hk _ (List.getElem_mem hlt')
    rw [← hp1] at hkd
    clear htk hgone
    refine ⟨fun hd => ?_, fun hd => ⟨fun k1 => ⟨fun hx => ?_, fun hx => ?_⟩, fun k1 => ⟨fun k2 => ?_, fun k2 => ⟨fun k3 => ?_, fun k3 => ⟨fun k4 => ?_, fun k4 => ?_⟩⟩⟩⟩⟩
    · rw [show stepOn x (onE x ⟨rl, sm, sl, sz⟩ (o.take i)) p.1 = onE x ⟨rl, sm, sl, sz⟩ (o.take i) by simp [stepOn, hd]] at hon
      rw [show mvStep x mv2 p.1 = mv2 by simp [mvStep, hd]] at hms
      rw [show goneOn x p.1 = false by simp [goneOn]; omega] at hga
      refine ⟨_, W.in64 (by omega), (i + 1, rv, mv2), [], ?_⟩
      try simp only [go_sem, ↓reduceIte, Nat.reduceEqDiff, Nat.reduceAdd, Nat.reduceMul, Nat.reduceLeDiff, Nat.reduceLT, Nat.reduceBNe, reduceCtorEq, hon, hms, hga]
      exact ⟨by omega, ⟨rfl, fun h0 => gb_ne h0⟩, by decide, by omega, hrv, hmvl⟩
    · rw [show stepOn x (onE x ⟨rl, sm, sl, sz⟩ (o.take i)) p.1 = onE x ⟨rl, sm, sl, sz⟩ (o.take i) by simp [stepOn, k1]] at hon
      rw [show mvStep x mv2 p.1 = [p.1.mv] by simp [mvStep, k1, hx]] at hms
      rw [show goneOn x p.1 = false by simp [goneOn, k1]] at hga
      refine ⟨_, W.in64 (by omega), (i + 1, rv, [p.1.mv]), [0, 1, 2, 5], ?_⟩
      try simp only [go_sem, ↓reduceIte, Nat.reduceEqDiff, Nat.reduceAdd, Nat.reduceMul, Nat.reduceLeDiff, Nat.reduceLT, Nat.reduceBNe, reduceCtorEq, hon, hms, hga]
      exact ⟨by omega, ⟨rfl, fun _ => rfl⟩, by decide, by omega, hrv⟩
    · rw [show stepOn x (onE x ⟨rl, sm, sl, sz⟩ (o.take i)) p.1 = onE x ⟨rl, sm, sl, sz⟩ (o.take i) by simp [stepOn, k1]] at hon
      rw [show mvStep x mv2 p.1 = mv2 by simp [mvStep, k1, hx]] at hms
      rw [show goneOn x p.1 = false by simp [goneOn, k1]] at hga
      refine ⟨_, W.in64 (by omega), (i + 1, rv, mv2), [], ?_⟩
      try simp only [go_sem, ↓reduceIte, Nat.reduceEqDiff, Nat.reduceAdd, Nat.reduceMul, Nat.reduceLeDiff, Nat.reduceLT, Nat.reduceBNe, reduceCtorEq, hon, hms, hga]
      exact ⟨by omega, ⟨rfl, fun h0 => gb_ne h0⟩, by decide, by omega, hrv, hmvl⟩
    · rw [show stepOn x (onE x ⟨rl, sm, sl, sz⟩ (o.take i)) p.1 = ⟨(onE x ⟨rl, sm, sl, sz⟩ (o.take i)).rule, p.1.minute, p.1.length, (onE x ⟨rl, sm, sl, sz⟩ (o.take i)).zone⟩ by simp [stepOn, hd, k2]] at hon
      rw [show mvStep x mv2 p.1 = mv2 by simp [mvStep, k2]] at hms
      rw [show goneOn x p.1 = false by simp [goneOn, k2]] at hga
      refine ⟨_, W.in64 (by omega), (i + 1, rv, mv2), [], ?_⟩
      try simp only [go_sem, ↓reduceIte, Nat.reduceEqDiff, Nat.reduceAdd, Nat.reduceMul, Nat.reduceLeDiff, Nat.reduceLT, Nat.reduceBNe, reduceCtorEq, hon, hms, hga]
      exact ⟨by omega, ⟨rfl, fun h0 => gb_ne h0⟩, by decide, by omega, hrv, hmvl⟩
    · rw [show stepOn x (onE x ⟨rl, sm, sl, sz⟩ (o.take i)) p.1 = ⟨p.1.rule, (onE x ⟨rl, sm, sl, sz⟩ (o.take i)).minute, (onE x ⟨rl, sm, sl, sz⟩ (o.take i)).length, (onE x ⟨rl, sm, sl, sz⟩ (o.take i)).zone⟩ by simp [stepOn, hd, k3]] at hon
      rw [show mvStep x mv2 p.1 = [] by simp [mvStep, k3, hd]] at hms
      rw [show goneOn x p.1 = false by simp [goneOn, k3]] at hga
      refine ⟨_, W.in64 (by omega), (i + 1, .slice p.2.1 p.2.2.1 p.2.2.2, []), [], ?_⟩
      try simp only [go_sem, ↓reduceIte, Nat.reduceEqDiff, Nat.reduceAdd, Nat.reduceMul, Nat.reduceLeDiff, Nat.reduceLT, Nat.reduceBNe, reduceCtorEq, hon, hms, hga]
      exact ⟨by omega, ⟨rfl, fun h0 => absurd rfl h0⟩, by decide, by omega, hpok.mono hle12⟩
    · rw [show stepOn x (onE x ⟨rl, sm, sl, sz⟩ (o.take i)) p.1 = ⟨(onE x ⟨rl, sm, sl, sz⟩ (o.take i)).rule, (onE x ⟨rl, sm, sl, sz⟩ (o.take i)).minute, (onE x ⟨rl, sm, sl, sz⟩ (o.take i)).length, p.1.zone⟩ by simp [stepOn, hd, k4]] at hon
      rw [show mvStep x mv2 p.1 = mv2 by simp [mvStep, k4]] at hms
      rw [show goneOn x p.1 = false by simp [goneOn, k4]] at hga
      refine ⟨_, W.in64 (by omega), (i + 1, rv, mv2), [], ?_⟩
      try simp only [go_sem, ↓reduceIte, Nat.reduceEqDiff, Nat.reduceAdd, Nat.reduceMul, Nat.reduceLeDiff, Nat.reduceLT, Nat.reduceBNe, reduceCtorEq, hon, hms, hga]
      exact ⟨by omega, ⟨rfl, fun h0 => gb_ne h0⟩, by decide, by omega, hrv, hmvl⟩
    · have k5 : p.1.kind = 5 := by omega
      rw [OnV, if_pos]
      · rfl
      · refine List.any_eq_true.2 ⟨p.1, by rw [hp1]; exact List.getElem_mem hlt', ?_⟩
        simp [goneOn, k5]; omega
  · obtain rfl : i = o.length := by omega
    rw [List.take_length] at hrv hmv2 hgone
    have hfin : ∀ R' mvv, RO.le R2 R' → EncV Mv.cells 5 R' mvv mv2 → OnV R' (.tuple #[.agg #[rv, .int .i64 (onE x ⟨rl, sm, sl, sz⟩ o).minute, .int .i64 (onE x ⟨rl, sm, sl, sz⟩ o).length, .string (onE x ⟨rl, sm, sl, sz⟩ o).zone, .int .i64 sg, .int .i64 sf, mvv], .bool true]) ⟨.slice ra0 rn0 rc0, sm, sl, sz, sg, sf, .slice ma ms.length mcap⟩ rl ms o x := fun R' mvv hle hE => by
      rw [OnV, if_neg (by rw [hgone]; simp)]
      exact ⟨rv, mvv, rfl, hrv.mono hle, by rw [← hmv2]; exact hE⟩
    by_cases h1 : mv2.length = 0
    · rw [h1]
      try simp only [go_sem, ↓reduceIte, Nat.reduceEqDiff, Nat.reduceAdd, Nat.reduceMul, Nat.reduceLeDiff, Nat.reduceLT, Nat.reduceBNe, reduceCtorEq, e3', e6', e8', e1', e2', e7', List.take_length]
      rw [List.eq_nil_of_length_eq_zero h1] at hfin
      exact ⟨hrv.one, hfin _ _ (RO.le_refl _) (EncV.nil _ _ _)⟩
    · rw [gs_pos h1, gb_ne (fun e => h1 (by have := rowM_len mv2; rw [e] at this; simp at this; omega))]
      try simp only [go_sem, ↓reduceIte, Nat.reduceEqDiff, Nat.reduceAdd, Nat.reduceMul, Nat.reduceLeDiff, Nat.reduceLT, Nat.reduceBNe, reduceCtorEq, e3', e6', e8', e1', e2', e7', List.take_length]
      intro b cap' R' hle hrow hcap' hfr
      exact ⟨hrv.one, hfin _ _ hle (RowIn.enc (fun _ => rfl) (by omega) hrow hcap' hmvl)⟩
end Go.Proofs.YtpnhiknfcpkfbaaGreat
namespace Go.Proofs.YtpnhiknfcpkfbaaGreat
set_option linter.unusedSimpArgs false
set_option linter.unusedVariables false
open Go.Proofs.YtpnhiknfcpkfbaaGreat.Vc
/-! ### The reference's insert, At -/
def insK (l : List Int) (x : Int) : Nat := (l.takeWhile fun y => decide (y < x)).length
theorem insK_le (l : List Int) (x : Int) : insK l x ≤ l.length := (List.takeWhile_prefix _).length_le
theorem insK_less {l : List Int} {x : Int} {i : Nat} (h : i < insK l x) (hi : i < l.length) : l[i] < x := by
  have h0 : l.take (insK l x) = l.takeWhile fun y => decide (y < x) := (List.prefix_iff_eq_take.1 (List.takeWhile_prefix _)).symm
  have h1 : l[i] ∈ l.takeWhile fun y => decide (y < x) := by
    rw [← h0, List.mem_take_iff_getElem]
    exact ⟨i, by omega, rfl⟩
  simpa using mem_tw h1
theorem insK_not {l : List Int} {x : Int} (h : insK l x < l.length) : ¬ l[insK l x] < x := by
  have h2 : l.drop (insK l x) = l.dropWhile fun y => decide (y < x) := drop_tw _ l
  have h3 : (l.dropWhile fun y => decide (y < x)) ≠ [] := by
    intro e
    have := congrArg List.length (h2.trans e)
    simp at this; omega
  have h4 := List.head_dropWhile_not (fun y => decide (y < x)) h3
  have h5 : (l.dropWhile fun y => decide (y < x)).head h3 = l[insK l x] := by
    simp only [← h2]
    rw [List.head_drop]
  rw [h5] at h4
  simpa using h4
theorem insI_eq (l : List Int) (x : Int) : insI l x = if l[insK l x]? = some x then l else l.take (insK l x) ++ x :: l.drop (insK l x) := by
  have h0 : l.take (insK l x) = l.takeWhile fun y => decide (y < x) := (List.prefix_iff_eq_take.1 (List.takeWhile_prefix _)).symm
  have h2 : l.drop (insK l x) = l.dropWhile fun y => decide (y < x) := drop_tw _ l
  have h3 : l[insK l x]? = (l.dropWhile fun y => decide (y < x)).head? := by rw [← h2, List.head?_drop]
  unfold insI
  rw [h3, h0, h2]
  dsimp only
  split
  · exact List.takeWhile_append_dropWhile
  · rfl
set_option maxHeartbeats 1000000 in
theorem rInsert (l : List Int) (x : Int) (hl : l.length ≤ 100000000) (R : RO) : CallsS Tryz.prog 33 [.sl 0 l.length, .val (.int .i64 x)] [.row 3 1 (l.map (.int .i64))] R fun R' bs r =>
    (insI l x = l ∧ bs = [.row 3 1 (l.map (.int .i64))] ∧ r = .sl 0 l.length) ∨ (∃ a b, bs = [.dead, .dead, a, b, .dead, .row 3 1 ((insI l x).map (.int .i64))] ∧ r = .sl 5 (insI l x).length) := by
  have hale := insK_le l x
  refine callsTS mix Tryz.func33 comp33 (by simp [Tryz.ntmps33]) rfl rfl ?_; simp only [go_sem, ↓reduceIte, Nat.reduceEqDiff, Nat.reduceAdd, Nat.reduceMul, Nat.reduceLeDiff, Nat.reduceLT, Nat.reduceBNe, reduceCtorEq, vc33, rs33]
  refine cutL (fun s' => ∃ env R1, s' = ⟨env, [.row 3 1 (l.map (.int .i64))], R1⟩ ∧ env 5 = .val (.int .i64 (insK l x)) ∧ env 0 = .sl 0 l.length ∧ env 1 = .val (.int .i64 x)) ?_ ?_
  · refine vcLoop Nat (fun k => [(5, .val (.int .i64 k)), (0, .sl 0 l.length), (1, .val (.int .i64 x))]) (fun _ => [.row 3 1 (l.map (.int .i64))]) (fun k _ => k ≤ insK l x) (fun k => l.length - k) 0 ?_ ?_ ?_ ?_
    · (try simp only [go_sem, ↓reduceIte, Nat.reduceEqDiff, Nat.reduceAdd, Nat.reduceMul, Nat.reduceLeDiff, Nat.reduceLT, Nat.reduceBNe, reduceCtorEq]) <;> (repeat' (first | rfl | trivial | constructor | (intro h; exact absurd rfl h)))
    · rfl
    · exact Nat.zero_le _
    rintro k env R1 hle1 hE hk
    (simp only [go_sem] at hE; obtain ⟨e5, e0, e1⟩ := hE; simp only [go_sem, ↓reduceIte, Nat.reduceEqDiff, Nat.reduceAdd, Nat.reduceMul, Nat.reduceLeDiff, Nat.reduceLT, Nat.reduceBNe, reduceCtorEq, e5, e0, e1]; dsimp only at *)
    refine ⟨fun hkl => ?_, fun hkg => ?_⟩
    · have hkn : k < l.length := by omega
      refine ⟨hkl, .int .i64 l[k], by rw [List.getElem?_map, List.getElem?_eq_getElem hkn]; rfl, ?_⟩
      simp only [go_sem, ↓reduceIte, Nat.reduceEqDiff, Nat.reduceAdd, Nat.reduceMul, Nat.reduceLeDiff, Nat.reduceLT, Nat.reduceBNe, reduceCtorEq, e5, e0, e1]
      refine ⟨fun h1 => ?_, fun h1 => ?_⟩
      · refine ⟨_, W.in64 (by omega), k + 1, by omega, by constructor, rfl, ?_⟩
        rcases Nat.lt_or_ge k (insK l x) with h2 | h2
        · exact h2
        · obtain rfl : k = insK l x := by omega
          exact absurd h1 (insK_not hkn)
      · have : k = insK l x := by
          rcases Nat.lt_or_ge k (insK l x) with h2 | h2
          · exact absurd (insK_less h2 hkn) h1
          · omega
        rw [← this]
        exact ⟨_, _, rfl, e5, e0, e1⟩
    · have : k = insK l x := by omega
      rw [← this]
      exact ⟨_, _, rfl, e5, e0, e1⟩
  rintro s' ⟨env, R1, rfl, e5, e0, e1⟩
  have hI := insI_eq l x
  obtain ⟨k, hk⟩ : ∃ k, k = insK l x := ⟨_, rfl⟩
  rw [← hk] at e5 hale hI
  rw [tCode_seq]
  refine cutT (fun s' => ∃ env R2, s' = ⟨env, [.row 3 1 (l.map (.int .i64))], R2⟩ ∧ l[k]? ≠ some x ∧ env 5 = .val (.int .i64 k) ∧ env 0 = .sl 0 l.length ∧ env 1 = .val (.int .i64 x)) ?_ ?_
  · try simp only [go_sem, ↓reduceIte, Nat.reduceEqDiff, Nat.reduceAdd, Nat.reduceMul, Nat.reduceLeDiff, Nat.reduceLT, Nat.reduceBNe, reduceCtorEq, e5, e0, e1]
    refine ⟨fun hkl => ?_, fun hkg => ?_⟩
    · have hkn : k < l.length := by omega
      refine ⟨hkl, .int .i64 l[k], by rw [List.getElem?_map, List.getElem?_eq_getElem hkn]; rfl, ?_⟩
      simp only [go_sem, ↓reduceIte, Nat.reduceEqDiff, Nat.reduceAdd, Nat.reduceMul, Nat.reduceLeDiff, Nat.reduceLT, Nat.reduceBNe, reduceCtorEq, e5, e0, e1]
      refine ⟨fun h1 => ?_, fun h1 => ?_⟩
      · rw [if_pos (by rw [List.getElem?_eq_getElem hkn, h1])] at hI
        exact .inl ⟨hI, rfl⟩
      · exact ⟨_, _, rfl, by rw [List.getElem?_eq_getElem hkn]; simpa using h1, e5, e0, e1⟩
    · exact ⟨_, _, rfl, by rw [List.getElem?_eq_none (by omega)]; simp, e5, e0, e1⟩
  rintro s' ⟨env, R2, rfl, hnk, e5, e0, e1⟩
  rw [if_neg hnk] at hI
  have hone : ∀ (ys : List Int), ∀ u ∈ ys.map (Value.int .i64), u.oneCell' = true := fun ys u hu => by obtain ⟨_, _, rfl⟩ := List.mem_map.1 hu; rfl
  rw [tCode_seq]
  refine cutT (fun s' => ∃ env, s' = ⟨env, [.row 3 1 (l.map (.int .i64)), .dead, .row 3 1 ((l.drop k).map (.int .i64))], R2⟩ ∧ env 6 = .sl 2 (l.length - k) ∧ env 5 = .val (.int .i64 k) ∧ env 0 = .sl 0 l.length ∧ env 1 = .val (.int .i64 x)) ?_ ?_
  · try simp only [go_sem, ↓reduceIte, Nat.reduceEqDiff, Nat.reduceAdd, Nat.reduceMul, Nat.reduceLeDiff, Nat.reduceLT, Nat.reduceBNe, reduceCtorEq, e5, e0, e1]
    refine ⟨k, l.length, rfl, rfl, by omega, ⟨_, _, ⟨rfl, rfl⟩, by simp⟩, ?_⟩
    by_cases hk0 : k = 0
    · rw [if_pos hk0]
      subst hk0
      try simp only [go_sem, ↓reduceIte, Nat.reduceEqDiff, Nat.reduceAdd, Nat.reduceMul, Nat.reduceLeDiff, Nat.reduceLT, Nat.reduceBNe, reduceCtorEq, e5, e0, e1]
      refine ⟨by simp, fun u hu => hone _ u hu, ?_⟩
      refine vappO [] rfl rfl (by omega) ?_
      try simp only [go_sem, ↓reduceIte, Nat.reduceEqDiff, Nat.reduceAdd, Nat.reduceMul, Nat.reduceLeDiff, Nat.reduceLT, Nat.reduceBNe, reduceCtorEq, e5, e0, e1]
      rw [List.take_of_length_le (by simp)]
      exact ⟨_, rfl, rfl, e5, e0, e1⟩
    · rw [if_neg hk0]
      try simp only [go_sem, ↓reduceIte, Nat.reduceEqDiff, Nat.reduceAdd, Nat.reduceMul, Nat.reduceLeDiff, Nat.reduceLT, Nat.reduceBNe, reduceCtorEq, e5, e0, e1]
      refine ⟨by simp; omega, fun u hu => hone _ u hu, ?_⟩
      refine vappO [] rfl rfl (by omega) ?_
      try simp only [go_sem, ↓reduceIte, Nat.reduceEqDiff, Nat.reduceAdd, Nat.reduceMul, Nat.reduceLeDiff, Nat.reduceLT, Nat.reduceBNe, reduceCtorEq, e5, e0, e1]
      rw [← List.map_drop, List.take_of_length_le (by simp)]
      exact ⟨_, rfl, rfl, e5, e0, e1⟩
  rintro s' ⟨env, rfl, e6, e5, e0, e1⟩
  try simp only [go_sem, ↓reduceIte, Nat.reduceEqDiff, Nat.reduceAdd, Nat.reduceMul, Nat.reduceLeDiff, Nat.reduceLT, Nat.reduceBNe, reduceCtorEq, e6, e5, e0, e1]
  refine ⟨0, k, rfl, rfl, by omega, ⟨_, _, ⟨rfl, rfl⟩, by simp; omega⟩, ?_⟩
  try simp only [go_sem, ↓reduceIte, Nat.reduceEqDiff, Nat.reduceAdd, Nat.reduceMul, Nat.reduceLeDiff, Nat.reduceLT, Nat.reduceBNe, reduceCtorEq, e6, e5, e0, e1]
  refine vappP ((l.take k).map (.int .i64)) (l.map (.int .i64)) rfl (by rw [List.map_take]; exact List.take_prefix _ _) (by simp; omega) (by omega) ?_
  try simp only [go_sem, ↓reduceIte, Nat.reduceEqDiff, Nat.reduceAdd, Nat.reduceMul, Nat.reduceLeDiff, Nat.reduceLT, Nat.reduceBNe, reduceCtorEq, e6, e5, e0, e1]
  refine ⟨by simp, fun u hu => hone _ u hu, ?_⟩
  refine vappO _ rfl (by simp; omega) (by omega) ?_
  try simp only [go_sem, ↓reduceIte, Nat.reduceEqDiff, Nat.reduceAdd, Nat.reduceMul, Nat.reduceLeDiff, Nat.reduceLT, Nat.reduceBNe, reduceCtorEq, e6, e5, e0, e1]
  rw [hI]
  refine .inr ⟨_, _, ⟨rfl, rfl, rfl, rfl, rfl, ?_⟩, ?_⟩
  · have ht : ((l.drop k).map (Value.int .i64)).take (l.length - k) = (l.drop k).map (Value.int .i64) := List.take_of_length_le (by simp)
    rw [ht]
    simp only [List.map_append, List.map_cons, List.append_assoc, List.cons_append, List.nil_append]
    rfl
  · congr 1
    simp; omega
end Go.Proofs.YtpnhiknfcpkfbaaGreat
