import Derived.Test.YtpnhiknfcpkfbaaEu
namespace Go.Proofs.Ytpnhiknfcpkfbaa
set_option linter.unusedSimpArgs false
set_option linter.unusedVariables false
open Go.Proofs.Ytpnhiknfcpkfbaa.Vc
def forceD (all : List De) : List De := all.filter fun a => !(all.any (overD a))
def ovOf (a b : De) : Ov := ⟨a.device, a.seq, b.device, b.seq⟩
def recsD (all : List De) : List Ov := all.filterMap fun a => (all.find? (overD a)).map (ovOf a)
theorem idxE_neg {p : De → Bool} : ∀ {l : List De} {i : Nat}, l.any p = false → idxE p i l = -1
  | [], _, _ => rfl
  | d :: l, i, h => by
    simp only [List.any_cons, Bool.or_eq_false_iff] at h
    rw [idxE, if_neg (by simp [h.1])]
    exact idxE_neg h.2
theorem idxE_pos {p : De → Bool} : ∀ {l : List De} {i : Nat} {b : De}, l.find? p = some b → ∃ j : Nat, idxE p i l = ((i + j : Nat) : Int) ∧ l[j]? = some b
  | [], _, _, h => by simp at h
  | d :: l, i, b, h => by
    rw [List.find?_cons] at h
    cases hp : p d with
    | true => rw [hp] at h; simp only [Option.some.injEq] at h; subst h; exact ⟨0, by rw [idxE, if_pos hp]; rfl, rfl⟩
    | false =>
      rw [hp] at h
      obtain ⟨j, h1, h2⟩ := idxE_pos (i := i + 1) h
      exact ⟨j + 1, by rw [idxE, if_neg (by simp [hp]), h1]; congr 1; omega, by simpa using h2⟩
theorem filter_snoc {α : Type} (p : α → Bool) (l : List α) (i : Nat) (h : i < l.length) : (l.take (i + 1)).filter p = (l.take i).filter p ++ if p l[i] = true then [l[i]] else [] := by
  rw [List.take_succ_eq_append_getElem h, List.filter_append]
  cases hp : p l[i] <;> simp [hp]
theorem filterMap_snoc {α β : Type} (f : α → Option β) (l : List α) (i : Nat) (h : i < l.length) : (l.take (i + 1)).filterMap f = (l.take i).filterMap f ++ (f l[i]).toList := by
  rw [List.take_succ_eq_append_getElem h, List.filterMap_append]
  cases hp : f l[i] <;> simp [hp]
def rowO (os : List Ov) : List Value := (os.map Ov.cells).flatten
theorem rowO_len (os : List Ov) : (rowO os).length = os.length * 4 := by
  unfold rowO
  rw [length_flattenK (k := 4) (fun us hus => by obtain ⟨x, _, rfl⟩ := List.mem_map.1 hus; rfl)]
  simp
theorem rowO_snoc (os : List Ov) (o : Ov) : rowO (os ++ [o]) = rowO os ++ o.cells := by simp [rowO]
theorem RowIn.enc {α : Type} {enc : α → List Value} {k : Nat} {R : RO} {b cap : Nat} {xs : List α} (hk : ∀ x, (enc x).length = k) (h0 : 0 < k) (h : RowIn R b (xs.map enc).flatten) (hc : (xs.map enc).flatten.length ≤ cap * k) (hl : xs.length ≤ 1000000000) : EncV enc k R (.slice (some ⟨b, 0, none⟩) xs.length cap) xs := by
  have h1 := RowIn.slK h (fun us hus => by obtain ⟨x, _, rfl⟩ := List.mem_map.1 hus; exact hk x) h0 hc
  rw [List.length_map] at h1
  exact ⟨h1, hl⟩
theorem EncV.nil {α : Type} (enc : α → List Value) (k : Nat) (R : RO) : EncV enc k R (.slice none 0 0) [] := ⟨⟨none, 0, rfl, Nat.le_refl _, by simp⟩, by simp⟩
/-- What Rebase hands back. -/
def RebV (R : RO) (r : Value) (ds : List De) : Prop := match allD ds with
  | .error k => r = .tuple #[.slice none 0 0, .slice none 0 0, .int .i64 k]
  | .ok o => ∃ u v, r = .tuple #[u, v, .int .i64 0] ∧ EdsV R u (forceD o) ∧ EncV Ov.cells 4 R v (recsD o)
theorem hbOver : hasBody Try.prog 33 = true := by kernel_rfl
theorem eRebase (ds : List De) (v : Value) (R : RO) (h : EdsV R v ds) : CallsR Try.prog 17 [v] R fun R' r => RebV R' r ds := by
  have hS := eSorted ds v R h
  obtain ⟨a0, cap0, rfl, _⟩ := h.form
  refine callsT mix Try.func17 comp17 (by simp [Try.ntmps17]) ?_; simp only [go_sem, ↓reduceIte, Nat.reduceEqDiff, Nat.reduceAdd, Nat.reduceMul, Nat.reduceLeDiff, Nat.reduceLT, Nat.reduceBNe, reduceCtorEq, vc17, rs17]
  refine vcall hS ?_
  intro R1 r hle1 hr
  unfold RebV
  cases hall : allD ds with
  | error k =>
    have hk := allD_error hall
    rw [hall] at hr
    dsimp only at hr
    subst hr
    try simp only [go_sem, ↓reduceIte, Nat.reduceEqDiff, Nat.reduceAdd, Nat.reduceMul, Nat.reduceLeDiff, Nat.reduceLT, Nat.reduceBNe, reduceCtorEq]
    exact fun h0 => by omega
  | ok o =>
    rw [hall] at hr
    dsimp only at hr
    obtain ⟨u, rfl, hu⟩ := hr
    have hu' := hu
    have hol : o.length ≤ 1000000000 := by obtain ⟨_, _, _, _, h⟩ := hu; exact h
    obtain ⟨a, cap, rfl, hc, hf⟩ := PlOK.of hu
    try simp only [go_sem, ↓reduceIte, Nat.reduceEqDiff, Nat.reduceAdd, Nat.reduceMul, Nat.reduceLeDiff, Nat.reduceLT, Nat.reduceBNe, reduceCtorEq]
    refine vcLoopR (Nat × List Pl × List Ov) (fun x => [(22, .val (.int .i64 x.1)), (21, .val (.int .i64 o.length)), (20, .val (.slice a o.length cap)), (5, .val (.slice a o.length cap)), (7, gs 0 x.2.1.length), (8, gs 1 x.2.2.length)])
      (fun x => [gb 27 13 (rowP x.2.1), gb 51 4 (rowO x.2.2)])
      (fun x R => x.1 ≤ o.length ∧ x.2.1.map (·.1) = (o.take x.1).filter (fun a => !(o.any (overD a))) ∧ x.2.2 = (o.take x.1).filterMap (fun a => (o.find? (overD a)).map (ovOf a)) ∧ x.2.1.length ≤ x.1 ∧ x.2.2.length ≤ x.1 ∧ ∀ p ∈ x.2.1, PlOK R p) (fun x => o.length - x.1) (0, [], []) [] ?_ ?_ ?_ ?_
    · (try simp only [go_sem, ↓reduceIte, Nat.reduceEqDiff, Nat.reduceAdd, Nat.reduceMul, Nat.reduceLeDiff, Nat.reduceLT, Nat.reduceBNe, reduceCtorEq]) <;> (repeat' (first | rfl | trivial | constructor | (intro h; exact absurd rfl h)))
    · try simp only [go_sem, ↓reduceIte, Nat.reduceEqDiff, Nat.reduceAdd, Nat.reduceMul, Nat.reduceLeDiff, Nat.reduceLT, Nat.reduceBNe, reduceCtorEq]
    · exact ⟨Nat.zero_le _, rfl, rfl, Nat.le_refl _, Nat.le_refl _, by simp⟩
    rintro ⟨i, ps, os⟩ env R2 hle2 hE ⟨hi, hps, hos, hpl, hol2, hpo⟩
    (simp only [go_sem] at hE; obtain ⟨e22, e21, e20, e5, e7, e8⟩ := hE; simp only [go_sem, ↓reduceIte, Nat.reduceEqDiff, Nat.reduceAdd, Nat.reduceMul, Nat.reduceLeDiff, Nat.reduceLT, Nat.reduceBNe, reduceCtorEq, e22, e21, e20, e5, e7, e8]; dsimp only at *)
    refine ⟨fun hlt => ⟨hlt, ?_⟩, fun hge => ?_⟩
    · have hlt' : i < o.length := by omega
      obtain ⟨ad, p, had, hp1, hR, hpok⟩ := hf i hlt'
      have hcells : ∀ j u, (p.ed.cells)[j]? = some u → R2 ((ad.add (i * 13)).add j) u := fun j u hj => hle2 _ _ (hR j u hj)
      have hflt := filter_snoc (fun a => !(o.any (overD a))) o i hlt'
      have hflm := filterMap_snoc (fun a => (o.find? (overD a)).map (ovOf a)) o i hlt'
      rw [← hp1] at hflt hflm
      refine vat ad had ?_
      try simp only [go_sem, ↓reduceIte, Nat.reduceEqDiff, Nat.reduceAdd, Nat.reduceMul, Nat.reduceLeDiff, Nat.reduceLT, Nat.reduceBNe, reduceCtorEq]
      refine vloadn p.ed.cells rfl hcells ?_
      simp only [go_sem, ↓reduceIte, Nat.reduceEqDiff, Nat.reduceAdd, Nat.reduceMul, Nat.reduceLeDiff, Nat.reduceLT, Nat.reduceBNe, reduceCtorEq, Ed.cells, Pl.ed, De.ed, e22, e21, e20, e5, e7, e8]
      refine vlend ?_
      intro β κ R3 hL
      have hbox := hL.2 2 _ rfl
      have hLle := hL.1
      refine ⟨_, eIndexFunc 33 [.pointer (some ⟨β 2, 0, none⟩)] hbOver (overD p.1) o _ R3 ((hu'.mono hle2).mono hLle) ?_, ?_⟩
      · intro d cs R4 hle4 hd
        have := eOverF p.ed d cs ⟨β 2, 0, none⟩ R4 (fun j u hj => by rw [Addr.add_lit, Nat.zero_add]; exact hle4 _ _ (hbox j u hj)) hd
        exact this
      rintro R4 v R5 hle4 rfl hle5 _
      simp only [go_sem, ↓reduceIte, Nat.reduceEqDiff, Nat.reduceAdd, Nat.reduceMul, Nat.reduceLeDiff, Nat.reduceLT, Nat.reduceBNe, reduceCtorEq, e22, e21, e20, e5, e7, e8]
      have hpo5 : ∀ q ∈ ps, PlOK R5 q := fun q hq => (hpo q hq).mono hle5
      refine ⟨fun hn => ?_, fun hn => ?_⟩
      · have hany : o.any (overD p.1) = false := by
          cases hf : o.find? (overD p.1) with
          | none => rw [List.any_eq_false]; exact fun x hx => List.find?_eq_none.1 hf x hx
          | some b => obtain ⟨j, hj, _⟩ := idxE_pos (i := 0) hf; omega
        have hfind : o.find? (overD p.1) = none := List.find?_eq_none.2 (List.any_eq_false.1 hany)
        rw [hany, if_pos (by rfl)] at hflt
        rw [hfind] at hflm
        refine vgrow (rowP ps) (fun h0 => by rw [gb_ne h0]; rfl) (fun h0 => by rw [h0, gb_nil]; rfl) (by rw [rowP_len]) (by omega) (by omega) (by omega) ?_
        simp only [go_sem, ↓reduceIte, Nat.reduceEqDiff, Nat.reduceAdd, Nat.reduceMul, Nat.reduceLeDiff, Nat.reduceLT, Nat.reduceBNe, reduceCtorEq, e22, e21, e20, e5, e7, e8]
        refine ⟨_, W.in64 (by omega), (i + 1, ps ++ [p], os), [4, 1], ?_⟩
        try simp only [go_sem, ↓reduceIte, Nat.reduceEqDiff, Nat.reduceAdd, Nat.reduceMul, Nat.reduceLeDiff, Nat.reduceLT, Nat.reduceBNe, reduceCtorEq]
        refine ⟨by omega, ⟨rfl, fun _ => by rw [rowP_snoc]; rfl, fun h => gb_ne h⟩, by decide, by omega, by rw [hflt, ← hps]; simp, by rw [hflm, hos]; simp, by omega, by omega, fun q hq => ?_⟩
        rcases List.mem_append.1 hq with hq | hq
        · exact hpo5 q hq
        · simp only [List.mem_cons, List.not_mem_nil, or_false] at hq; subst hq; exact hpok.mono (RO.le_trans hle2 hle5)
      · have hany : o.any (overD p.1) = true := by
          cases ha : o.any (overD p.1) with
          | true => rfl
          | false => rw [idxE_neg ha] at hn; omega
        obtain ⟨b, hb⟩ : ∃ b, o.find? (overD p.1) = some b := by
          cases hf : o.find? (overD p.1) with
          | none => rw [List.find?_eq_none] at hf; rw [List.any_eq_true] at hany; obtain ⟨x, hx, hx'⟩ := hany; exact absurd hx' (hf x hx)
          | some b => exact ⟨b, rfl⟩
        rw [hany, if_neg (by simp)] at hflt
        rw [hb] at hflm
        obtain ⟨j, hj, hbj⟩ := idxE_pos (i := 0) hb
        rw [Nat.zero_add] at hj
        obtain ⟨hjl, hbe⟩ := List.getElem?_eq_some_iff.1 hbj
        obtain ⟨adb, q, hadb, hq1, hRq, _⟩ := hf j hjl
        rw [hbe] at hq1
        have hcq : ∀ k u, (q.ed.cells)[k]? = some u → R5 ((adb.add (j * 13)).add k) u := fun k u hk => hle5 _ _ (hle2 _ _ (hRq k u hk))
        rw [hj]
        try simp only [go_sem, ↓reduceIte, Nat.reduceEqDiff, Nat.reduceAdd, Nat.reduceMul, Nat.reduceLeDiff, Nat.reduceLT, Nat.reduceBNe, reduceCtorEq]
        refine ⟨by omega, vat adb hadb ?_⟩
        try simp only [go_sem, ↓reduceIte, Nat.reduceEqDiff, Nat.reduceAdd, Nat.reduceMul, Nat.reduceLeDiff, Nat.reduceLT, Nat.reduceBNe, reduceCtorEq]
        refine vload _ (hcq 2 _ rfl) ?_
        simp only [go_sem, ↓reduceIte, Nat.reduceEqDiff, Nat.reduceAdd, Nat.reduceMul, Nat.reduceLeDiff, Nat.reduceLT, Nat.reduceBNe, reduceCtorEq, e22, e21, e20, e5, e7, e8]
        refine ⟨by omega, vat adb hadb ?_⟩
        try simp only [go_sem, ↓reduceIte, Nat.reduceEqDiff, Nat.reduceAdd, Nat.reduceMul, Nat.reduceLeDiff, Nat.reduceLT, Nat.reduceBNe, reduceCtorEq]
        refine vload _ (hcq 3 _ rfl) ?_
        simp only [go_sem, ↓reduceIte, Nat.reduceEqDiff, Nat.reduceAdd, Nat.reduceMul, Nat.reduceLeDiff, Nat.reduceLT, Nat.reduceBNe, reduceCtorEq, e22, e21, e20, e5, e7, e8]
        refine vgrow (rowO os) (fun h0 => by rw [gb_ne h0]; rfl) (fun h0 => by rw [h0, gb_nil]; rfl) (by rw [rowO_len]) (by omega) (by omega) (by omega) ?_
        simp only [go_sem, ↓reduceIte, Nat.reduceEqDiff, Nat.reduceAdd, Nat.reduceMul, Nat.reduceLeDiff, Nat.reduceLT, Nat.reduceBNe, reduceCtorEq, e22, e21, e20, e5, e7, e8]
        refine ⟨_, W.in64 (by omega), (i + 1, ps, os ++ [ovOf p.1 b]), [0, 4], ?_⟩
        try simp only [go_sem, ↓reduceIte, Nat.reduceEqDiff, Nat.reduceAdd, Nat.reduceMul, Nat.reduceLeDiff, Nat.reduceLT, Nat.reduceBNe, reduceCtorEq]
        refine ⟨by omega, ⟨rfl, fun h => gb_ne h, fun _ => by rw [rowO_snoc, ← hq1]; rfl⟩, by decide, by omega, by rw [hflt, ← hps]; simp, by rw [hflm, hos]; simp, by omega, by omega, hpo5⟩
    · obtain rfl : i = o.length := by omega
      rw [List.take_length] at hps hos
      by_cases h1 : ps.length = 0
      · rw [h1]
        obtain rfl : ps = [] := List.eq_nil_of_length_eq_zero h1
        by_cases h2 : os.length = 0
        · rw [h2]
          try simp only [go_sem, ↓reduceIte, Nat.reduceEqDiff, Nat.reduceAdd, Nat.reduceMul, Nat.reduceLeDiff, Nat.reduceLT, Nat.reduceBNe, reduceCtorEq]
          obtain rfl : os = [] := List.eq_nil_of_length_eq_zero h2
          refine ⟨_, _, rfl, ?_, ?_⟩
          · unfold forceD; rw [← hps]; exact EdsV.nil R2
          · unfold recsD; rw [← hos]; exact EncV.nil _ _ R2
        · rw [gs_pos h2]
          try simp only [go_sem, ↓reduceIte, Nat.reduceEqDiff, Nat.reduceAdd, Nat.reduceMul, Nat.reduceLeDiff, Nat.reduceLT, Nat.reduceBNe, reduceCtorEq]
          rw [gb_ne (fun e => h2 (by have := rowO_len os; rw [e] at this; simp at this; omega))]
          try simp only [go_sem, ↓reduceIte, Nat.reduceEqDiff, Nat.reduceAdd, Nat.reduceMul, Nat.reduceLeDiff, Nat.reduceLT, Nat.reduceBNe, reduceCtorEq]
          intro b cap' R3 hle3 hrow hcap hfr
          refine ⟨_, _, rfl, ?_, ?_⟩
          · unfold forceD; rw [← hps]; exact EdsV.nil R3
          · unfold recsD; rw [← hos]; exact RowIn.enc (fun _ => rfl) (by omega) hrow hcap (by omega)
      · rw [gs_pos h1]
        try simp only [go_sem, ↓reduceIte, Nat.reduceEqDiff, Nat.reduceAdd, Nat.reduceMul, Nat.reduceLeDiff, Nat.reduceLT, Nat.reduceBNe, reduceCtorEq]
        rw [gb_ne (fun e => h1 (by have := rowP_len ps; rw [e] at this; simp at this; omega))]
        try simp only [go_sem, ↓reduceIte, Nat.reduceEqDiff, Nat.reduceAdd, Nat.reduceMul, Nat.reduceLeDiff, Nat.reduceLT, Nat.reduceBNe, reduceCtorEq]
        intro b cap' R3 hle3 hrow hcap hfr
        have hF : EdsV R3 (.slice (some ⟨b, 0, none⟩) ps.length cap') (forceD o) := by
          unfold forceD
          rw [← hps]
          exact EdsV.row hrow hcap (fun p hp => (hpo p hp).mono hle3) (by omega)
        by_cases h2 : os.length = 0
        · rw [h2]
          try simp only [go_sem, ↓reduceIte, Nat.reduceEqDiff, Nat.reduceAdd, Nat.reduceMul, Nat.reduceLeDiff, Nat.reduceLT, Nat.reduceBNe, reduceCtorEq]
          obtain rfl : os = [] := List.eq_nil_of_length_eq_zero h2
          refine ⟨_, _, rfl, hF, ?_⟩
          unfold recsD; rw [← hos]; exact EncV.nil _ _ R3
        · rw [gs_pos h2]
          try simp only [go_sem, ↓reduceIte, Nat.reduceEqDiff, Nat.reduceAdd, Nat.reduceMul, Nat.reduceLeDiff, Nat.reduceLT, Nat.reduceBNe, reduceCtorEq]
          rw [gb_ne (fun e => h2 (by have := rowO_len os; rw [e] at this; simp at this; omega))]
          try simp only [go_sem, ↓reduceIte, Nat.reduceEqDiff, Nat.reduceAdd, Nat.reduceMul, Nat.reduceLeDiff, Nat.reduceLT, Nat.reduceBNe, reduceCtorEq]
          intro b' cap'' R4 hle4 hrow' hcap2 hfr'
          refine ⟨_, _, rfl, hF.mono hle4, ?_⟩
          unfold recsD; rw [← hos]; exact RowIn.enc (fun _ => rfl) (by omega) hrow' hcap2 (by omega)
end Go.Proofs.Ytpnhiknfcpkfbaa
namespace Go.Proofs.Ytpnhiknfcpkfbaa
set_option linter.unusedSimpArgs false
set_option linter.unusedVariables false
open Go.Proofs.Ytpnhiknfcpkfbaa.Vc
def Se.zero : Se := ⟨.slice none 0 0, 0, 0, ⟨#[]⟩, 0, 0, .slice none 0 0⟩
def Se.on (s : Se) (rl : List Nd) : On := ⟨rl, s.minute, s.length, s.zone⟩
/-- What At hands back. -/
def AtV (R : RO) (r : Value) (s : Se) (rl : List Nd) (ds : List De) (day : Int) : Prop := match allD ds with
  | .error k => r = .tuple #[.agg Se.zero.cells.toArray, .bool false, .int .i64 k]
  | .ok o => if betw 0 day 1099511627776 = false then r = .tuple #[.agg Se.zero.cells.toArray, .bool false, .int .i64 1]
    else if endE (forceD o) ≤ day then r = .tuple #[.agg Se.zero.cells.toArray, .bool false, .int .i64 0]
    else ∃ rv, r = .tuple #[.agg (Se.cells ⟨rv, (onE day (s.on rl) (forceD o)).minute, (onE day (s.on rl) (forceD o)).length, (onE day (s.on rl) (forceD o)).zone, s.gap, s.fold, .slice none 0 0⟩).toArray, .bool true, .int .i64 0] ∧ RuleV R rv (onE day (s.on rl) (forceD o)).rule
theorem eAt (s : Se) (rl : List Nd) (ds : List De) (v : Value) (day : Int) (R : RO) (hr : RuleV R s.rule rl) (hm : s.moves.oneCell' = true) (h : EdsV R v ds) : CallsR Try.prog 24 [.agg s.cells.toArray, v, .int .i64 day] R fun R' r => AtV R' r s rl ds day := by
  have hS := eRebase ds v R h
  have hsr := hr.one
  obtain ⟨a0, cap0, rfl, _⟩ := h.form
  obtain ⟨sr, sm, sl, sz, sg, sf, smv⟩ := s
  dsimp only at hr hm hsr
  simp only [Se.cells]
  refine callsT mix Try.func24 comp24 (by simp [Try.ntmps24]) ?_; simp only [go_sem, ↓reduceIte, Nat.reduceEqDiff, Nat.reduceAdd, Nat.reduceMul, Nat.reduceLeDiff, Nat.reduceLT, Nat.reduceBNe, reduceCtorEq, vc24, rs24]
  refine vcall hS ?_
  intro R1 r hle1 hr1
  unfold AtV
  unfold RebV at hr1
  cases hall : allD ds with
  | error k =>
    have hk := allD_error hall
    rw [hall] at hr1
    dsimp only at hr1
    subst hr1
    try simp only [go_sem, ↓reduceIte, Nat.reduceEqDiff, Nat.reduceAdd, Nat.reduceMul, Nat.reduceLeDiff, Nat.reduceLT, Nat.reduceBNe, reduceCtorEq]
    exact ⟨fun h0 => rfl, fun h0 => by omega⟩
  | ok o =>
    rw [hall] at hr1
    dsimp only at hr1
    obtain ⟨u, w, rfl, hu, _⟩ := hr1
    obtain ⟨a, cap, rfl, _⟩ := hu.form
    try simp only [go_sem, ↓reduceIte, Nat.reduceEqDiff, Nat.reduceAdd, Nat.reduceMul, Nat.reduceLeDiff, Nat.reduceLT, Nat.reduceBNe, reduceCtorEq]
    refine vcall (eBetween 0 day 1099511627776 R1) ?_
    rintro R2 v hle2 rfl
    try simp only [go_sem, ↓reduceIte, Nat.reduceEqDiff, Nat.reduceAdd, Nat.reduceMul, Nat.reduceLeDiff, Nat.reduceLT, Nat.reduceBNe, reduceCtorEq]
    refine ⟨fun hb => ?_, fun hb => ?_⟩
    · rw [if_pos hb]
      simp only [Se.zero, Se.cells]
    · refine vcall (eBegin ⟨sr, sm, sl, sz, sg, sf, smv⟩ (forceD o) _ R2 hsr hm (hu.mono hle2)) ?_
      rintro R3 v hle3 rfl
      simp only [go_sem, ↓reduceIte, Nat.reduceEqDiff, Nat.reduceAdd, Nat.reduceMul, Nat.reduceLeDiff, Nat.reduceLT, Nat.reduceBNe, reduceCtorEq, Se.cells]
      refine ⟨⟨hsr, hm⟩, fun hge => ?_, fun hge => ?_⟩
      · rw [if_neg (by simp [hb]), if_pos hge]
        simp only [Se.zero, Se.cells]
      · refine vcall (eOn ⟨sr, sm, sl, sz, sg, sf, smv⟩ rl (forceD o) _ (endE (forceD o)) day R3 (hr.mono (RO.le_trans hle1 (RO.le_trans hle2 hle3))) (hu.mono (RO.le_trans hle2 hle3))) ?_
        rintro R4 v hle4 ⟨rv, rfl, hrv⟩
        simp only [go_sem, ↓reduceIte, Nat.reduceEqDiff, Nat.reduceAdd, Nat.reduceMul, Nat.reduceLeDiff, Nat.reduceLT, Nat.reduceBNe, reduceCtorEq, Se.cells]
        refine ⟨hrv.one, ?_⟩
        rw [if_neg (by simp [hb]), if_neg hge]
        exact ⟨rv, rfl, hrv⟩
end Go.Proofs.Ytpnhiknfcpkfbaa
namespace Go.Proofs.Ytpnhiknfcpkfbaa
set_option linter.unusedSimpArgs false
set_option linter.unusedVariables false
open Go.Proofs.Ytpnhiknfcpkfbaa.Vc
def isRuleTo (day : Int) (d : De) : Bool := decide (d.kind = 3) && decide (d.day ≤ day)
theorem eRuleF (b : De) (cb : List Value) (ad : Addr) (day : Int) (R : RO) (ha : R ad (.int .i64 day)) (hb : EdV R cb b) : CallsR Try.prog 52 [.agg cb.toArray, .pointer (some ad)] R fun _ r => r = .bool (isRuleTo day b) := by
  obtain ⟨ra, rn, rc, rfl, _⟩ := hb.form
  simp only [Ed.cells, De.ed] at *
  refine callsT mix Try.func52 comp52 (by simp [Try.ntmps52]) ?_; simp only [go_sem, ↓reduceIte, Nat.reduceEqDiff, Nat.reduceAdd, Nat.reduceMul, Nat.reduceLeDiff, Nat.reduceLT, Nat.reduceBNe, reduceCtorEq, vc52, rs52]
  unfold isRuleTo
  refine ⟨fun h3 => ?_, fun h3 => ?_⟩
  · refine vload _ ha ?_
    try simp only [go_sem, ↓reduceIte, Nat.reduceEqDiff, Nat.reduceAdd, Nat.reduceMul, Nat.reduceLeDiff, Nat.reduceLT, Nat.reduceBNe, reduceCtorEq]
    simp [h3]
  · simp [h3]
theorem idxE_any (p : De → Bool) (l : List De) : decide (0 ≤ idxE p 0 l) = l.any p := by
  cases h : l.any p with
  | false => rw [idxE_neg h]; rfl
  | true =>
    cases hf : l.find? p with
    | none => rw [List.find?_eq_none] at hf; rw [List.any_eq_true] at h; obtain ⟨x, hx, hx'⟩ := h; exact absurd hx' (hf x hx)
    | some b => obtain ⟨j, hj, _⟩ := idxE_pos (i := 0) hf; rw [hj]; simp
theorem eContainsFunc (g : FuncId) (caps : List Value) (hb : hasBody Try.prog g = true) (p : De → Bool) (ds : List De) (v : Value) (R : RO) (h : EdsV R v ds)
    (hcl : ∀ d cs R', RO.le R R' → EdV R' cs d → CallsR Try.prog g (.agg cs.toArray :: caps) R' fun _ r => r = .bool (p d)) : CallsR Try.prog 51 [v, .func (.func g) #[] caps.toArray] R fun _ r => r = .bool (ds.any p) := by
  have hI := eIndexFunc g caps hb p ds v R h hcl
  obtain ⟨a, cap, rfl, hc, _⟩ := h.form
  refine callsT mix Try.func51 comp51 (by simp [Try.ntmps51]) ?_; simp only [go_sem, ↓reduceIte, Nat.reduceEqDiff, Nat.reduceAdd, Nat.reduceMul, Nat.reduceLeDiff, Nat.reduceLT, Nat.reduceBNe, reduceCtorEq, vc51, rs51]
  refine vcall hI ?_
  rintro R1 w hle rfl
  try simp only [go_sem, ↓reduceIte, Nat.reduceEqDiff, Nat.reduceAdd, Nat.reduceMul, Nat.reduceLeDiff, Nat.reduceLT, Nat.reduceBNe, reduceCtorEq]
  rw [← idxE_any]
theorem hbRuleF : hasBody Try.prog 52 = true := by kernel_rfl
theorem eRulesF (ds : List De) (v : Value) (ad : Addr) (day : Int) (R : RO) (ha : R (ad.add 7) v) (h : EdsV R v ds) : CallsR Try.prog 50 [.int .i64 day, .pointer (some ad)] R fun _ r => r = .bool (ds.any (isRuleTo day)) := by
  have h' := h
  obtain ⟨a, cap, rfl, hc, _⟩ := h.form
  refine callsT mix Try.func50 comp50 (by simp [Try.ntmps50]) ?_; simp only [go_sem, ↓reduceIte, Nat.reduceEqDiff, Nat.reduceAdd, Nat.reduceMul, Nat.reduceLeDiff, Nat.reduceLT, Nat.reduceBNe, reduceCtorEq, vc50, rs50]
  refine vload _ ha ?_
  try simp only [go_sem, ↓reduceIte, Nat.reduceEqDiff, Nat.reduceAdd, Nat.reduceMul, Nat.reduceLeDiff, Nat.reduceLT, Nat.reduceBNe, reduceCtorEq]
  refine vlend ?_
  intro β κ R3 hL
  have hbox := hL.2 0 _ rfl
  refine ⟨_, eContainsFunc 52 [.pointer (some ⟨β 0, 0, none⟩)] hbRuleF (isRuleTo day) ds _ R3 (h'.mono hL.1) ?_, ?_⟩
  · intro d cs R4 hle4 hd
    exact eRuleF d cs ⟨β 0, 0, none⟩ day R4 (hle4 _ _ (hbox 0 _ rfl)) hd
  rintro R4 v R5 hle4 rfl hle5 _
  try simp only [go_sem, ↓reduceIte, Nat.reduceEqDiff, Nat.reduceAdd, Nat.reduceMul, Nat.reduceLeDiff, Nat.reduceLT, Nat.reduceBNe, reduceCtorEq]
def isMove (d : De) : Bool := decide (d.kind = 1)
def isMoveOn (day : Int) (d : De) : Bool := decide (d.kind = 1) && decide (d.day = day)
/-- The moves in force, unsorted. -/
def movesD (ms : List Mv) (ds : List De) (e : Int) : List Mv :=
  (ds.filter isMove).map (·.mv) ++ ms.filter fun m => decide (m.day < e) && (!(ds.any (isMoveOn m.day)) && !(ds.any (isRuleTo m.day)))
theorem hbRulesF : hasBody Try.prog 50 = true := by kernel_rfl
def edMap (ds : List De) : Int → Option Value := fun k => if ds.any (isMoveOn k) = true then some (.bool true) else none
theorem eMoves (s : Se) (ms : List Mv) (ds : List De) (v : Value) (e : Int) (R : RO) (hr : s.rule.oneCell' = true) (hm : EncV Mv.cells 5 R s.moves ms) (h : EdsV R v ds) (hsz : ms.length + ds.length ≤ 1000000000) : CallsR Try.prog 37 [.agg (s.cells ++ [v, .int .i64 e]).toArray] R fun R' u =>
    ∃ ys : List Mv, EncV Mv.cells 5 R' u ys ∧ ys.Perm (movesD ms ds e) ∧ ys.Pairwise fun x y => x.day ≤ y.day := by
  have hdl : ds.length ≤ 1000000000 := by obtain ⟨_, _, _, _, h⟩ := h; exact h
  have hml := hm.2
  have h0 := h
  obtain ⟨a, cap, rfl, hc, hf⟩ := h.form
  obtain ⟨sr, sm, sl, sz, sg, sf, smv⟩ := s
  dsimp only at hr hm
  obtain ⟨ma, mcap, rfl, hmc, hmf⟩ := hm.form
  simp only [Se.cells, List.cons_append, List.nil_append]
  refine callsT mix Try.func37 comp37 (by simp [Try.ntmps37]) ?_; simp only [go_sem, ↓reduceIte, Nat.reduceEqDiff, Nat.reduceAdd, Nat.reduceMul, Nat.reduceLeDiff, Nat.reduceLT, Nat.reduceBNe, reduceCtorEq, vc37, rs37]
  refine vcLoopR (Nat × List MapEntry × Nat × List Mv) (fun x => [(15, .val (.int .i64 x.1)), (14, .val (.int .i64 ds.length)), (13, .val (.slice a ds.length cap)), (1, .loc 0 0), (3, .fn 50 [.l 0 0]), (4, .mp 1), (5, gs 2 x.2.2.2.length)])
    (fun x => [.box [.val sr, .val (.int .i64 sm), .val (.int .i64 sl), .val (.string sz), .val (.int .i64 sg), .val (.int .i64 sf), .val (.slice ma ms.length mcap), .val (.slice a ds.length cap), .val (.int .i64 e)], .mp x.2.1 x.2.2.1, gb 23 5 (rowM x.2.2.2)])
    (fun x R => x.1 ≤ ds.length ∧ MapOf (Value.int .i64) x.2.1 (edMap (ds.take x.1)) ∧ x.2.2.2 = ((ds.take x.1).filter isMove).map (·.mv) ∧ x.2.2.2.length ≤ x.1) (fun x => ds.length - x.1) (0, [], 0, []) [] ?_ ?_ ?_ ?_
  · (try simp only [go_sem, ↓reduceIte, Nat.reduceEqDiff, Nat.reduceAdd, Nat.reduceMul, Nat.reduceLeDiff, Nat.reduceLT, Nat.reduceBNe, reduceCtorEq]) <;> (repeat' (first | rfl | trivial | constructor | (intro h; exact absurd rfl h)))
  · try simp only [go_sem, ↓reduceIte, Nat.reduceEqDiff, Nat.reduceAdd, Nat.reduceMul, Nat.reduceLeDiff, Nat.reduceLT, Nat.reduceBNe, reduceCtorEq]
    rfl
  · exact ⟨Nat.zero_le _, MapOf.nil _, rfl, Nat.le_refl _⟩
  · rintro ⟨i, es, clock, os⟩ env R1 hle1 hE ⟨hi, hmap, hos, hol⟩
    (simp only [go_sem] at hE; obtain ⟨e15, e14, e13, e1, e3, e4, e5⟩ := hE; simp only [go_sem, ↓reduceIte, Nat.reduceEqDiff, Nat.reduceAdd, Nat.reduceMul, Nat.reduceLeDiff, Nat.reduceLT, Nat.reduceBNe, reduceCtorEq, e15, e14, e13, e1, e3, e4, e5]; dsimp only at *)
    refine ⟨fun hlt => ⟨hlt, ?_⟩, fun hge => ?_⟩
    · have hlt' : i < ds.length := by omega
      obtain ⟨ad, ra, rn, rc, had, hR, _⟩ := hf i hlt'
      obtain ⟨d, hd⟩ : ∃ d, d = ds[i] := ⟨_, rfl⟩
      rw [← hd] at hR
      refine vat ad had ?_
      try simp only [go_sem, ↓reduceIte, Nat.reduceEqDiff, Nat.reduceAdd, Nat.reduceMul, Nat.reduceLeDiff, Nat.reduceLT, Nat.reduceBNe, reduceCtorEq]
      refine vloadn (d.ed ra rn rc).cells rfl (fun j u hj => hle1 _ _ (hR j u hj)) ?_
      simp only [go_sem, ↓reduceIte, Nat.reduceEqDiff, Nat.reduceAdd, Nat.reduceMul, Nat.reduceLeDiff, Nat.reduceLT, Nat.reduceBNe, reduceCtorEq, Ed.cells, De.ed, e15, e14, e13, e1, e3, e4, e5]
      have hflt := filter_snoc isMove ds i hlt'
      have hany : ∀ k, (ds.take (i + 1)).any (isMoveOn k) = ((ds.take i).any (isMoveOn k) || isMoveOn k d) := fun k => by
        rw [List.take_succ_eq_append_getElem hlt', List.any_append, ← hd]; simp
      rw [← hd] at hflt
      refine ⟨fun hk => ?_, fun hk => ?_⟩
      · obtain ⟨r, es', clock', g1, g2, g3⟩ := MapOf.put none (Value.int .i64) mEq_int hmap d.day (.bool true) clock
        refine ⟨by rw [mEq_int]; simp, vmput es clock r rfl g1 ?_⟩
        rw [g2]
        simp only [go_sem, ↓reduceIte, Nat.reduceEqDiff, Nat.reduceAdd, Nat.reduceMul, Nat.reduceLeDiff, Nat.reduceLT, Nat.reduceBNe, reduceCtorEq, e15, e14, e13, e1, e3, e4, e5]
        refine vgrow (rowM os) (fun h0 => by rw [gb_ne h0]; rfl) (fun h0 => by rw [h0, gb_nil]; rfl) (by rw [rowM_len]) (by omega) (by omega) (by omega) ?_
        simp only [go_sem, ↓reduceIte, Nat.reduceEqDiff, Nat.reduceAdd, Nat.reduceMul, Nat.reduceLeDiff, Nat.reduceLT, Nat.reduceBNe, reduceCtorEq, e15, e14, e13, e1, e3, e4, e5]
        refine ⟨_, W.in64 (by omega), (i + 1, es', clock', os ++ [d.mv]), [0, 1, 5], ?_⟩
        try simp only [go_sem, ↓reduceIte, Nat.reduceEqDiff, Nat.reduceAdd, Nat.reduceMul, Nat.reduceLeDiff, Nat.reduceLT, Nat.reduceBNe, reduceCtorEq]
        refine ⟨by omega, ⟨⟨rfl, rfl⟩, fun _ => by rw [rowM_snoc]; rfl⟩, ⟨rfl, by decide⟩, by omega, ?_, by rw [hflt, if_pos (by simp [isMove, hk]), List.map_append, ← hos]; rfl, by omega⟩
        have : edMap (ds.take (i + 1)) = fun k' => if k' = d.day then some (.bool true) else edMap (ds.take i) k' := by
          funext k
          unfold edMap
          rw [hany]
          by_cases hkd : k = d.day
          · subst hkd; simp [isMoveOn, hk]
          · have : isMoveOn k d = false := by simp [isMoveOn, Ne.symm hkd]
            rw [this, Bool.or_false, if_neg hkd]
        rw [this]
        exact g3
      · refine ⟨_, W.in64 (by omega), (i + 1, es, clock, os), [], ?_⟩
        try simp only [go_sem, ↓reduceIte, Nat.reduceEqDiff, Nat.reduceAdd, Nat.reduceMul, Nat.reduceLeDiff, Nat.reduceLT, Nat.reduceBNe, reduceCtorEq]
        refine ⟨by omega, ⟨rfl, fun h => gb_ne h⟩, ⟨rfl, by decide⟩, by omega, ?_, by rw [hflt, if_neg (by simp [isMove, hk]), List.append_nil, ← hos], by omega⟩
        have : edMap (ds.take (i + 1)) = edMap (ds.take i) := by
          funext k
          unfold edMap
          rw [hany]
          have : isMoveOn k d = false := by simp [isMoveOn, hk]
          rw [this, Bool.or_false]
        rw [this]
        exact hmap
    · obtain rfl : i = ds.length := by omega
      rw [List.take_length] at hmap hos
      refine vcLoopR (Nat × List Mv) (fun x => [(35, .val (.int .i64 x.1)), (34, .val (.int .i64 ms.length)), (33, .val (.slice ma ms.length mcap)), (1, .loc 0 0), (3, .fn 50 [.l 0 0]), (4, .mp 1), (5, gs 2 x.2.length)])
        (fun x => [.box [.val sr, .val (.int .i64 sm), .val (.int .i64 sl), .val (.string sz), .val (.int .i64 sg), .val (.int .i64 sf), .val (.slice ma ms.length mcap), .val (.slice a ds.length cap), .val (.int .i64 e)], .mp es clock, gb 23 5 (rowM x.2)])
        (fun x R => x.1 ≤ ms.length ∧ x.2 = os ++ (ms.take x.1).filter (fun m => decide (m.day < e) && (!(ds.any (isMoveOn m.day)) && !(ds.any (isRuleTo m.day)))) ∧ x.2.length ≤ os.length + x.1) (fun x => ms.length - x.1) (0, os) [] ?_ ?_ ?_ ?_
      · (try simp only [go_sem, ↓reduceIte, Nat.reduceEqDiff, Nat.reduceAdd, Nat.reduceMul, Nat.reduceLeDiff, Nat.reduceLT, Nat.reduceBNe, reduceCtorEq]) <;> (repeat' (first | rfl | trivial | constructor | (intro h; exact absurd rfl h)))
        exact fun h => gb_ne h
      · try simp only [go_sem, ↓reduceIte, Nat.reduceEqDiff, Nat.reduceAdd, Nat.reduceMul, Nat.reduceLeDiff, Nat.reduceLT, Nat.reduceBNe, reduceCtorEq]
        rfl
      · exact ⟨Nat.zero_le _, by simp, Nat.le_refl _⟩
      · rintro ⟨i, qs⟩ env R2 hle2 hE ⟨hi2, hqs, hql⟩
        (simp only [go_sem] at hE; obtain ⟨e35, e34, e33, e1, e3, e4, e5⟩ := hE; simp only [go_sem, ↓reduceIte, Nat.reduceEqDiff, Nat.reduceAdd, Nat.reduceMul, Nat.reduceLeDiff, Nat.reduceLT, Nat.reduceBNe, reduceCtorEq, e35, e34, e33, e1, e3, e4, e5]; dsimp only at *)
        refine ⟨fun hlt => ⟨hlt, ?_⟩, fun hge => ?_⟩
        · have hlt' : i < ms.length := by omega
          obtain ⟨ad, had, hR⟩ := hmf i hlt'
          obtain ⟨m, hm⟩ : ∃ m, m = ms[i] := ⟨_, rfl⟩
          rw [← hm] at hR
          have hflt := filter_snoc (fun m => decide (m.day < e) && (!(ds.any (isMoveOn m.day)) && !(ds.any (isRuleTo m.day)))) ms i hlt'
          rw [← hm] at hflt
          refine vat ad had ?_
          try simp only [go_sem, ↓reduceIte, Nat.reduceEqDiff, Nat.reduceAdd, Nat.reduceMul, Nat.reduceLeDiff, Nat.reduceLT, Nat.reduceBNe, reduceCtorEq]
          refine vloadn m.cells rfl (fun j u hj => hle2 _ _ (hle1 _ _ (hR j u hj))) ?_
          simp only [go_sem, ↓reduceIte, Nat.reduceEqDiff, Nat.reduceAdd, Nat.reduceMul, Nat.reduceLeDiff, Nat.reduceLT, Nat.reduceBNe, reduceCtorEq, Mv.cells, e35, e34, e33, e1, e3, e4, e5]
          refine ⟨fun hlt2 => ?_, fun hge2 => ?_⟩
          · obtain ⟨r, g1, g2⟩ := MapOf.get none (Value.int .i64) mEq_int hmap m.day
            have hr : mres (.bool false) false r = .bool (ds.any (isMoveOn m.day)) := by
              unfold edMap at g2
              cases hq : ds.any (isMoveOn m.day) with
              | true =>
                rw [hq, if_pos rfl] at g2
                obtain ⟨⟨j, v⟩, rfl, rfl⟩ := Option.map_eq_some_iff.1 g2
                rfl
              | false =>
                rw [hq, if_neg (by simp)] at g2
                rw [Option.map_eq_none_iff] at g2
                subst g2
                rfl
            refine vmget es clock r (by rw [mEq_int]; simp) rfl g1 ?_
            rw [hr]
            simp only [go_sem, ↓reduceIte, Nat.reduceEqDiff, Nat.reduceAdd, Nat.reduceMul, Nat.reduceLeDiff, Nat.reduceLT, Nat.reduceBNe, reduceCtorEq, e35, e34, e33, e1, e3, e4, e5]
            refine ⟨fun hq => ?_, fun hq => ?_⟩
            · refine ⟨hbRulesF, vlendT ?_⟩
              intro β κ R3 hL
              have hbox := hL.2 0 _ rfl
              refine ⟨_, eRulesF ds _ ⟨β 0, 0, none⟩ m.day R3 (by rw [Addr.add_lit, Nat.zero_add]; exact hbox 7 _ rfl) (h0.mono (RO.le_trans hle1 (RO.le_trans hle2 hL.1))), ?_⟩
              rintro R4 v R5 hle4 rfl hle5 _
              simp only [go_sem, ↓reduceIte, Nat.reduceEqDiff, Nat.reduceAdd, Nat.reduceMul, Nat.reduceLeDiff, Nat.reduceLT, Nat.reduceBNe, reduceCtorEq, e35, e34, e33, e1, e3, e4, e5]
              refine ⟨fun hq2 => ?_, fun hq2 => ?_⟩
              · refine vgrow (rowM qs) (fun h0 => by rw [gb_ne h0]; rfl) (fun h0 => by rw [h0, gb_nil]; rfl) (by rw [rowM_len]) (by omega) (by omega) (by omega) ?_
                simp only [go_sem, ↓reduceIte, Nat.reduceEqDiff, Nat.reduceAdd, Nat.reduceMul, Nat.reduceLeDiff, Nat.reduceLT, Nat.reduceBNe, reduceCtorEq, e35, e34, e33, e1, e3, e4, e5]
                refine ⟨_, W.in64 (by omega), (i + 1, qs ++ [m]), [0, 1, 5], ?_⟩
                try simp only [go_sem, ↓reduceIte, Nat.reduceEqDiff, Nat.reduceAdd, Nat.reduceMul, Nat.reduceLeDiff, Nat.reduceLT, Nat.reduceBNe, reduceCtorEq]
                refine ⟨by omega, ⟨⟨rfl, rfl⟩, fun _ => by rw [rowM_snoc]; rfl⟩, ⟨rfl, by decide⟩, by omega, by rw [hflt, if_pos (by simp [hlt2, hq, hq2]), hqs, List.append_assoc], by omega⟩
              · refine ⟨_, W.in64 (by omega), (i + 1, qs), [], ?_⟩
                try simp only [go_sem, ↓reduceIte, Nat.reduceEqDiff, Nat.reduceAdd, Nat.reduceMul, Nat.reduceLeDiff, Nat.reduceLT, Nat.reduceBNe, reduceCtorEq]
                exact ⟨by omega, ⟨rfl, fun h => gb_ne h⟩, ⟨rfl, by decide⟩, by omega, by rw [hflt, if_neg (by simp [hlt2, hq, hq2]), List.append_nil, hqs], by omega⟩
            · refine ⟨_, W.in64 (by omega), (i + 1, qs), [], ?_⟩
              try simp only [go_sem, ↓reduceIte, Nat.reduceEqDiff, Nat.reduceAdd, Nat.reduceMul, Nat.reduceLeDiff, Nat.reduceLT, Nat.reduceBNe, reduceCtorEq]
              exact ⟨by omega, ⟨rfl, fun h => gb_ne h⟩, ⟨rfl, by decide⟩, by omega, by rw [hflt, if_neg (by simp [hlt2, hq]), List.append_nil, hqs], by omega⟩
          · refine ⟨_, W.in64 (by omega), (i + 1, qs), [], ?_⟩
            try simp only [go_sem, ↓reduceIte, Nat.reduceEqDiff, Nat.reduceAdd, Nat.reduceMul, Nat.reduceLeDiff, Nat.reduceLT, Nat.reduceBNe, reduceCtorEq]
            exact ⟨by omega, ⟨rfl, fun h => gb_ne h⟩, ⟨rfl, by decide⟩, by omega, by rw [hflt, if_neg (by simp [hge2]), List.append_nil, hqs], by omega⟩
        · obtain rfl : i = ms.length := by omega
          rw [List.take_length] at hqs
          have hqd : qs = movesD ms ds e := by rw [hqs, hos]; rfl
          by_cases h0 : qs.length = 0
          · rw [h0]
            try simp only [go_sem, ↓reduceIte, Nat.reduceEqDiff, Nat.reduceAdd, Nat.reduceMul, Nat.reduceLeDiff, Nat.reduceLT, Nat.reduceBNe, reduceCtorEq]
            refine vcall (eSortMvNil _ R2) ?_
            rintro R3 v hle3 rfl
            simp only [go_sem, ↓reduceIte, Nat.reduceEqDiff, Nat.reduceAdd, Nat.reduceMul, Nat.reduceLeDiff, Nat.reduceLT, Nat.reduceBNe, reduceCtorEq, e35, e34, e33, e1, e3, e4, e5]
            rw [h0]
            try simp only [go_sem, ↓reduceIte, Nat.reduceEqDiff, Nat.reduceAdd, Nat.reduceMul, Nat.reduceLeDiff, Nat.reduceLT, Nat.reduceBNe, reduceCtorEq]
            obtain rfl : qs = [] := List.eq_nil_of_length_eq_zero h0
            exact ⟨[], EncV.nil _ _ _, by rw [← hqd], List.Pairwise.nil⟩
          · rw [gs_pos h0]
            try simp only [go_sem, ↓reduceIte, Nat.reduceEqDiff, Nat.reduceAdd, Nat.reduceMul, Nat.reduceLeDiff, Nat.reduceLT, Nat.reduceBNe, reduceCtorEq]
            refine vhand [2] [.sl 0 qs.length, .val (.func (.func 54) #[] #[])] [.row 23 5 (rowM qs)] (eSortMv qs (by omega) R2) rfl rfl rfl ?_ (by simp) rfl rfl ?_
            · try simp only [go_sem, ↓reduceIte, Nat.reduceEqDiff, Nat.reduceAdd, Nat.reduceMul, Nat.reduceLeDiff, Nat.reduceLT, Nat.reduceBNe, reduceCtorEq]
              exact gb_ne (fun e => h0 (by have := rowM_len qs; rw [e] at this; simp at this; omega))
            rintro R3 bs r hle3 ⟨rfl, rs, hperm, hpw, rfl, rfl⟩ _
            simp only [go_sem, ↓reduceIte, Nat.reduceEqDiff, Nat.reduceAdd, Nat.reduceMul, Nat.reduceLeDiff, Nat.reduceLT, Nat.reduceBNe, reduceCtorEq, e35, e34, e33, e1, e3, e4, e5]
            rw [gs_pos h0]
            simp only [go_sem, ↓reduceIte, Nat.reduceEqDiff, Nat.reduceAdd, Nat.reduceMul, Nat.reduceLeDiff, Nat.reduceLT, Nat.reduceBNe, reduceCtorEq, setG, rn]
            intro b cap' R4 hle4 hrow hcap hfr
            refine ⟨rs, ?_, by rw [← hqd]; exact hperm, hpw⟩
            rw [show qs.length = rs.length from hperm.length_eq.symm]
            exact RowIn.enc (fun _ => rfl) (by omega) hrow hcap (by rw [hperm.length_eq]; omega)
end Go.Proofs.Ytpnhiknfcpkfbaa
namespace Go.Proofs.Ytpnhiknfcpkfbaa
set_option linter.unusedSimpArgs false
set_option linter.unusedVariables false
open Go.Proofs.Ytpnhiknfcpkfbaa.Vc
/-- A part, with its series' slices as they lie: a part's cells. -/
def paCells (f : Int) (s : Se) : List Value := .int .i64 f :: s.cells
def Ti.zero : Ti := ⟨[], 0, 0, ⟨#[]⟩, 0, 0⟩
/-- A part of a series. -/
structure Pa where
  day : Int
  ti : Ti
  moves : List Mv
  deriving DecidableEq
/-- A part without moves, and where its rule lies. -/
abbrev Pp := Int × Ti × Value
def Pp.se (p : Pp) : Se := ⟨p.2.2, p.2.1.minute, p.2.1.length, p.2.1.zone, p.2.1.gap, p.2.1.fold, .slice none 0 0⟩
def Pp.cells (p : Pp) : List Value := paCells p.1 (Pp.se p)
def Pp.OK (R : RO) (p : Pp) : Prop := RuleV R p.2.2 p.2.1.rule
def rowPp (ps : List Pp) : List Value := (ps.map Pp.cells).flatten
theorem rowPp_len (ps : List Pp) : (rowPp ps).length = ps.length * 8 := by
  unfold rowPp
  rw [length_flattenK (k := 8) (fun us hus => by obtain ⟨x, _, rfl⟩ := List.mem_map.1 hus; rfl)]
  simp
theorem rowPp_snoc (ps : List Pp) (o : Pp) : rowPp (ps ++ [o]) = rowPp ps ++ o.cells := by simp [rowPp]
/-- What is in force on a day. -/
def tiOn (s : Se) (rl : List Nd) (ds : List De) (day : Int) : Ti := ⟨(onE day (s.on rl) ds).rule, (onE day (s.on rl) ds).minute, (onE day (s.on rl) ds).length, (onE day (s.on rl) ds).zone, s.gap, s.fold⟩
def sameTi (x y : Ti) : Bool := decide (y.minute = x.minute) && decide (y.length = x.length) && decide (x.rule = y.rule)
/-- The parts without moves, day by day. -/
def partsGo (e : Int) (f : Int → Ti) : List Int → List (Int × Ti) → List (Int × Ti)
  | [], out => out
  | day :: r, out =>
    if e ≤ day then out ++ [(day, Ti.zero)]
    else match out.getLast? with
      | some y => if sameTi (f day) y.2 = true then partsGo e f r out else partsGo e f r (out ++ [(day, f day)])
      | none => partsGo e f r (out ++ [(day, f day)])
def partsD (s : Se) (rl : List Nd) (ds : List De) (e : Int) : List (Int × Ti) := partsGo e (tiOn s rl ds) (rising (0 :: ds.map (·.day))) []
theorem rowPp_last (ps : List Pp) (o : Pp) (j : Nat) : (rowPp (ps ++ [o]))[ps.length * 8 + j]? = o.cells[j]? := by
  rw [rowPp_snoc, List.getElem?_append_right (by rw [rowPp_len]; omega), rowPp_len]
  congr 1; omega
theorem compact_sorted (xs : List Int) : Lib.compact (xs.mergeSort fun x y => decide (x ≤ y)) = rising xs := by
  rw [← compact_rising]; simp [Lib.compact]
theorem partsGo_nil (e : Int) (f : Int → Ti) (out : List (Int × Ti)) : partsGo e f [] out = out := rfl
theorem partsGo_end {e : Int} {f : Int → Ti} {day : Int} {r : List Int} {out : List (Int × Ti)} (h : e ≤ day) : partsGo e f (day :: r) out = out ++ [(day, Ti.zero)] := by rw [partsGo, if_pos h]
theorem partsGo_first {e : Int} {f : Int → Ti} {day : Int} {r : List Int} (h : ¬ e ≤ day) : partsGo e f (day :: r) [] = partsGo e f r [(day, f day)] := by rw [partsGo, if_neg h]; rfl
theorem partsGo_same {e : Int} {f : Int → Ti} {day : Int} {r : List Int} {out : List (Int × Ti)} {y : Int × Ti} (h : ¬ e ≤ day) (k : sameTi (f day) y.2 = true) : partsGo e f (day :: r) (out ++ [y]) = partsGo e f r (out ++ [y]) := by rw [partsGo, if_neg h]; simp [k]
theorem partsGo_new {e : Int} {f : Int → Ti} {day : Int} {r : List Int} {out : List (Int × Ti)} {y : Int × Ti} (h : ¬ e ≤ day) (k : sameTi (f day) y.2 = false) : partsGo e f (day :: r) (out ++ [y]) = partsGo e f r (out ++ [y] ++ [(day, f day)]) := by rw [partsGo, if_neg h]; simp [k]
theorem eParts (s : Se) (rl : List Nd) (ds : List De) (v : Value) (e : Int) (R : RO) (hr : RuleV R s.rule rl) (hm : s.moves.oneCell' = true) (h : EdsV R v ds) (hsz : ds.length ≤ 100000000) : CallsS Try.prog 36 [.val (.agg (s.cells ++ [v, .int .i64 e]).toArray)] [] R fun R' bs r =>
    ∃ ps : List Pp, ps ≠ [] ∧ (∀ p ∈ ps, p.OK R') ∧ ps.map (fun p => (p.1, p.2.1)) = partsD s rl ds e ∧ ∃ j, r = .sl j ps.length ∧ bs[j]? = some (.row 57 8 (rowPp ps)) := by
  have hdl : ds.length ≤ 1000000000 := by omega
  have h0 := h
  have hron := hr.one
  obtain ⟨a, cap, rfl, hc, hf⟩ := h.form
  obtain ⟨sr, sm, sl, sz, sg, sf, smv⟩ := s
  dsimp only at hr hm hron
  simp only [Se.cells, List.cons_append, List.nil_append]
  refine callsTS mix Try.func36 comp36 (by simp [Try.ntmps36]) rfl rfl ?_; simp only [go_sem, ↓reduceIte, Nat.reduceEqDiff, Nat.reduceAdd, Nat.reduceMul, Nat.reduceLeDiff, Nat.reduceLT, Nat.reduceBNe, reduceCtorEq, vc36, rs36]
  refine vcLoopR Nat (fun i => [(16, .val (.int .i64 i)), (15, .val (.int .i64 ds.length)), (14, .val (.slice a ds.length cap)), (1, .loc 0 0), (3, .sl 1 (i + 1))])
    (fun i => [.box [.val sr, .val (.int .i64 sm), .val (.int .i64 sl), .val (.string sz), .val (.int .i64 sg), .val (.int .i64 sf), .val smv, .val (.slice a ds.length cap), .val (.int .i64 e)], .row 3 1 ((0 :: (ds.take i).map (·.day)).map (.int .i64))])
    (fun i R => i ≤ ds.length) (fun i => ds.length - i) 0 [] ?_ ?_ ?_ ?_
  · (try simp only [go_sem, ↓reduceIte, Nat.reduceEqDiff, Nat.reduceAdd, Nat.reduceMul, Nat.reduceLeDiff, Nat.reduceLT, Nat.reduceBNe, reduceCtorEq]) <;> (repeat' (first | rfl | trivial | constructor | (intro h; exact absurd rfl h)))
  · try simp only [go_sem, ↓reduceIte, Nat.reduceEqDiff, Nat.reduceAdd, Nat.reduceMul, Nat.reduceLeDiff, Nat.reduceLT, Nat.reduceBNe, reduceCtorEq]
  · exact Nat.zero_le _
  · rintro i env R1 hle1 hE hi
    (simp only [go_sem] at hE; obtain ⟨e16, e15, e14, e1, e3⟩ := hE; simp only [go_sem, ↓reduceIte, Nat.reduceEqDiff, Nat.reduceAdd, Nat.reduceMul, Nat.reduceLeDiff, Nat.reduceLT, Nat.reduceBNe, reduceCtorEq, e16, e15, e14, e1, e3]; dsimp only at *)
    refine ⟨fun hlt => ⟨hlt, ?_⟩, fun hge => ?_⟩
    · have hlt' : i < ds.length := by omega
      obtain ⟨ad, ra, rn, rc, had, hR, _⟩ := hf i hlt'
      refine vat ad had ?_
      try simp only [go_sem, ↓reduceIte, Nat.reduceEqDiff, Nat.reduceAdd, Nat.reduceMul, Nat.reduceLeDiff, Nat.reduceLT, Nat.reduceBNe, reduceCtorEq]
      refine vloadn (ds[i].ed ra rn rc).cells rfl (fun j u hj => hle1 _ _ (hR j u hj)) ?_
      simp only [go_sem, ↓reduceIte, Nat.reduceEqDiff, Nat.reduceAdd, Nat.reduceMul, Nat.reduceLeDiff, Nat.reduceLT, Nat.reduceBNe, reduceCtorEq, Ed.cells, De.ed, e16, e15, e14, e1, e3]
      refine vappO _ rfl (by simp; omega) (by omega) ?_
      simp only [go_sem, ↓reduceIte, Nat.reduceEqDiff, Nat.reduceAdd, Nat.reduceMul, Nat.reduceLeDiff, Nat.reduceLT, Nat.reduceBNe, reduceCtorEq, e16, e15, e14, e1, e3]
      refine ⟨_, W.in64 (by omega), i + 1, [0, 4], ?_⟩
      try simp only [go_sem, ↓reduceIte, Nat.reduceEqDiff, Nat.reduceAdd, Nat.reduceMul, Nat.reduceLeDiff, Nat.reduceLT, Nat.reduceBNe, reduceCtorEq]
      refine ⟨by omega, ⟨rfl, ?_⟩, by decide, by omega⟩
      rw [List.take_succ_eq_append_getElem hlt', List.map_append, List.map_append]
      rfl
    · obtain rfl : i = ds.length := by omega
      rw [List.take_length]
      have hlen : (0 :: ds.map (·.day)).length = ds.length + 1 := by simp
      have hSI := eSortInts (0 :: ds.map (·.day)) (by simp; omega) R1
      rw [hlen] at hSI
      refine vhand [1] [.sl 0 (ds.length + 1)] [.row 3 1 ((0 :: ds.map (·.day)).map (.int .i64))] hSI rfl rfl rfl ?_ (by simp) rfl rfl ?_
      · try simp only [go_sem, ↓reduceIte, Nat.reduceEqDiff, Nat.reduceAdd, Nat.reduceMul, Nat.reduceLeDiff, Nat.reduceLT, Nat.reduceBNe, reduceCtorEq]
      rintro R2 bs r hle2 ⟨rfl, rfl, rfl⟩ _
      simp only [go_sem, ↓reduceIte, Nat.reduceEqDiff, Nat.reduceAdd, Nat.reduceMul, Nat.reduceLeDiff, Nat.reduceLT, Nat.reduceBNe, reduceCtorEq, setG, rn, e16, e15, e14, e1, e3]
      have hCI := eCompactInts ((0 :: ds.map (·.day)).mergeSort fun x y => decide (x ≤ y)) (by simp; omega) R2
      rw [List.length_mergeSort, hlen, compact_sorted] at hCI
      refine vhand [1] [.sl 0 (ds.length + 1)] [.row 3 1 (((0 :: ds.map (·.day)).mergeSort fun x y => decide (x ≤ y)).map (.int .i64))] hCI rfl rfl rfl ?_ (by simp) rfl rfl ?_
      · try simp only [go_sem, ↓reduceIte, Nat.reduceEqDiff, Nat.reduceAdd, Nat.reduceMul, Nat.reduceLeDiff, Nat.reduceLT, Nat.reduceBNe, reduceCtorEq]
        rfl
      rintro R3 bs r hle3 ⟨rfl, rfl, rfl⟩ _
      simp only [go_sem, ↓reduceIte, Nat.reduceEqDiff, Nat.reduceAdd, Nat.reduceMul, Nat.reduceLeDiff, Nat.reduceLT, Nat.reduceBNe, reduceCtorEq, setG, rn, e16, e15, e14, e1, e3]
      obtain ⟨days, hdays⟩ : ∃ days, days = rising (0 :: ds.map (·.day)) := ⟨_, rfl⟩
      have hdl1 : days.length ≤ ds.length + 1 := by rw [hdays, ← hlen]; exact rising_len _
      have hd0 : days ≠ [] := by
        have : (0 : Int) ∈ days := by rw [hdays, mem_rising]; simp
        intro e; rw [e] at this; simp at this
      rw [← hdays]
      refine vcLoopR (Nat × List Pp) (fun x => [(31, .val (.int .i64 x.1)), (30, .val (.int .i64 days.length)), (29, .sl 1 days.length), (1, .loc 0 0), (6, gs 2 x.2.length)])
        (fun x => [.box [.val sr, .val (.int .i64 sm), .val (.int .i64 sl), .val (.string sz), .val (.int .i64 sg), .val (.int .i64 sf), .val smv, .val (.slice a ds.length cap), .val (.int .i64 e)], .row 3 1 ((days ++ List.replicate (ds.length + 1 - days.length) 0).map (.int .i64)), gb 57 8 (rowPp x.2)])
        (fun x R => x.1 ≤ days.length ∧ (0 < x.1 → x.2 ≠ []) ∧ x.2.length ≤ x.1 ∧ (∀ p ∈ x.2, p.OK R) ∧ partsGo e (tiOn ⟨.slice none 0 0, sm, sl, sz, sg, sf, .slice none 0 0⟩ rl ds) (days.drop x.1) (x.2.map fun p => (p.1, p.2.1)) = partsGo e (tiOn ⟨.slice none 0 0, sm, sl, sz, sg, sf, .slice none 0 0⟩ rl ds) days []) (fun x => days.length - x.1) (0, []) [] ?_ ?_ ?_ ?_
      · (try simp only [go_sem, ↓reduceIte, Nat.reduceEqDiff, Nat.reduceAdd, Nat.reduceMul, Nat.reduceLeDiff, Nat.reduceLT, Nat.reduceBNe, reduceCtorEq]) <;> (repeat' (first | rfl | trivial | constructor | (intro h; exact absurd rfl h)))
      · try simp only [go_sem, ↓reduceIte, Nat.reduceEqDiff, Nat.reduceAdd, Nat.reduceMul, Nat.reduceLeDiff, Nat.reduceLT, Nat.reduceBNe, reduceCtorEq]
      · exact ⟨Nat.zero_le _, by simp, Nat.le_refl _, by simp, rfl⟩
      rintro ⟨i, ps⟩ env R4 hle4 hE ⟨hi, hne, hpl, hpo, hgo⟩
      (simp only [go_sem] at hE; obtain ⟨e31, e30, e29, e1', e6⟩ := hE; simp only [go_sem, ↓reduceIte, Nat.reduceEqDiff, Nat.reduceAdd, Nat.reduceMul, Nat.reduceLeDiff, Nat.reduceLT, Nat.reduceBNe, reduceCtorEq, e31, e30, e29, e1', e6]; dsimp only at *)
      refine ⟨fun hlt => ⟨hlt, ?_⟩, fun hge => ?_⟩
      · have hlt' : i < days.length := by omega
        refine ⟨.int .i64 days[i], by rw [List.getElem?_map, List.getElem?_append_left hlt', List.getElem?_eq_getElem hlt']; rfl, ?_⟩
        have hdrop := List.drop_eq_getElem_cons hlt'
        rw [hdrop] at hgo
        simp only [go_sem, ↓reduceIte, Nat.reduceEqDiff, Nat.reduceAdd, Nat.reduceMul, Nat.reduceLeDiff, Nat.reduceLT, Nat.reduceBNe, reduceCtorEq, e31, e30, e29, e1', e6]
        refine ⟨fun hge2 => ?_, fun hlt2 => ?_⟩
        · refine vgrow (rowPp ps) (fun h0 => by rw [gb_ne h0]; rfl) (fun h0 => by rw [h0, gb_nil]; rfl) (by rw [rowPp_len]) (by omega) (by omega) (by omega) ?_
          simp only [go_sem, ↓reduceIte, Nat.reduceEqDiff, Nat.reduceAdd, Nat.reduceMul, Nat.reduceLeDiff, Nat.reduceLT, Nat.reduceBNe, reduceCtorEq, e31, e30, e29, e1', e6]
          rw [partsGo_end hge2] at hgo
          refine ⟨ps ++ [(days[i], Ti.zero, .slice none 0 0)], by simp, fun p hp => ?_, ?_, 4, by simp, by rw [rowPp_snoc]; rfl⟩
          · rcases List.mem_append.1 hp with hp | hp
            · exact hpo p hp
            · simp only [List.mem_cons, List.not_mem_nil, or_false] at hp; subst hp; exact RuleV.nil _
          · rw [List.map_append]
            refine hgo.trans ?_
            rw [hdays]; rfl
        · refine vcall (eOn ⟨sr, sm, sl, sz, sg, sf, smv⟩ rl ds _ e days[i] R4 (hr.mono (RO.le_trans hle1 (RO.le_trans hle2 (RO.le_trans hle3 hle4)))) (h0.mono (RO.le_trans hle1 (RO.le_trans hle2 (RO.le_trans hle3 hle4))))) ?_
          rintro R5 v hle5 ⟨rv, rfl, hrv⟩
          have hrv1 := hrv.one
          obtain ⟨ra, rn, rc, rfl⟩ := hrv.form
          simp only [go_sem, ↓reduceIte, Nat.reduceEqDiff, Nat.reduceAdd, Nat.reduceMul, Nat.reduceLeDiff, Nat.reduceLT, Nat.reduceBNe, reduceCtorEq, Se.cells, e31, e30, e29, e1', e6]
          have hpo5 : ∀ p ∈ ps, p.OK R5 := fun p hp => (hpo p hp).mono hle5
          obtain ⟨ti, hti⟩ : ∃ ti, ti = tiOn ⟨.slice none 0 0, sm, sl, sz, sg, sf, .slice none 0 0⟩ rl ds days[i] := ⟨_, rfl⟩
          have happ : ∀ R6 : RO, RO.le R5 R6 → ∀ {k : SV → St → Prop} {t : Tok k} {e : Nat → SV} {b : List Blk}, b[2]? = some (gb 57 8 (rowPp ps)) → k (.sl b.length (ps.length + 1)) ⟨e, b.set 2 .dead ++ [.row 57 8 (rowPp (ps ++ [(days[i], ti, .slice ra rn rc)]))], R6⟩ →
              AppT 57 8 104 (gs 2 ps.length) 1 (Pp.cells (days[i], ti, .slice ra rn rc)) ⟨e, b, R6⟩ k t := by
            intro R6 hle6 k t e b hb hk
            refine vgrow (rowPp ps) (fun h0 => by rw [hb]) (fun h0 => set_dead_gb (by rw [hb, h0, gb_nil])) (by rw [rowPp_len]) (by omega) (by omega) (by omega) ?_
            rw [← rowPp_snoc]
            exact hk
          rcases List.eq_nil_or_concat ps with hps | ⟨qs, y, hps⟩
          · subst hps
            refine ⟨fun h => by simp at h, fun _ => ?_⟩
            rw [List.map_nil, partsGo_first (by omega), ← hti] at hgo
            have hcl : Pp.cells (days[i], ti, .slice ra rn rc) = [.int .i64 days[i], .slice ra rn rc, .int .i64 (onE days[i] ⟨rl, sm, sl, sz⟩ ds).minute, .int .i64 (onE days[i] ⟨rl, sm, sl, sz⟩ ds).length, .string (onE days[i] ⟨rl, sm, sl, sz⟩ ds).zone, .int .i64 sg, .int .i64 sf, .slice none 0 0] := by rw [hti]; rfl
            rw [← hcl]
            refine happ R5 (RO.le_refl _) rfl ?_
            simp only [go_sem, ↓reduceIte, Nat.reduceEqDiff, Nat.reduceAdd, Nat.reduceMul, Nat.reduceLeDiff, Nat.reduceLT, Nat.reduceBNe, reduceCtorEq, e31, e30, e29, e1', e6]
            refine ⟨_, W.in64 (by omega), (i + 1, [(days[i], ti, .slice ra rn rc)]), [0, 1, 5], ?_⟩
            try simp only [go_sem, ↓reduceIte, Nat.reduceEqDiff, Nat.reduceAdd, Nat.reduceMul, Nat.reduceLeDiff, Nat.reduceLT, Nat.reduceBNe, reduceCtorEq]
            exact ⟨by omega, rfl, by decide, by omega, by rw [hti]; exact hrv, hgo⟩
          · rw [List.concat_eq_append] at hps
            have hpl2 : ps.length = qs.length + 1 := by rw [hps]; simp
            refine ⟨fun _ => ⟨_, W.in64 (by omega), ?_⟩, fun h => by omega⟩
            obtain ⟨yd, yt, yv⟩ := y
            have hyo : RuleV R5 yv yt.rule := hpo5 (yd, yt, yv) (by rw [hps]; simp)
            obtain ⟨ya, yn, yc, rfl⟩ := hyo.form
            have hgb : gb 57 8 (rowPp ps) = .row 57 8 (rowPp ps) := gb_ne (fun e => by have := rowPp_len ps; rw [e] at this; simp at this; omega)
            have hcell : ∀ j, (rowPp ps)[qs.length * 8 + j]? = (Pp.cells (yd, yt, .slice ya yn yc))[j]? := fun j => by rw [hps]; exact rowPp_last qs _ j
            have hidx : ((ps.length : Int) - 1).toNat = qs.length := by omega
            rw [gs_pos (by omega), hgb]
            try simp only [go_sem, ↓reduceIte, Nat.reduceEqDiff, Nat.reduceAdd, Nat.reduceMul, Nat.reduceLeDiff, Nat.reduceLT, Nat.reduceBNe, reduceCtorEq]
            rw [hidx]
            refine ⟨by omega, by omega, ?_⟩
            try simp only [go_sem, ↓reduceIte, Nat.reduceEqDiff, Nat.reduceAdd, Nat.reduceMul, Nat.reduceLeDiff, Nat.reduceLT, Nat.reduceBNe, reduceCtorEq]
            refine ⟨_, (hcell 1).trans rfl, _, (hcell 2).trans rfl, _, (hcell 3).trans rfl, _, (hcell 4).trans rfl, _, (hcell 5).trans rfl, _, (hcell 6).trans rfl, _, (hcell 7).trans rfl, ?_⟩
            simp only [go_sem, ↓reduceIte, Nat.reduceEqDiff, Nat.reduceAdd, Nat.reduceMul, Nat.reduceLeDiff, Nat.reduceLT, Nat.reduceBNe, reduceCtorEq, Pp.se, e31, e30, e29, e1', e6]
            rw [hps, List.map_append] at hgo
            have hcl : Pp.cells (days[i], ti, .slice ra rn rc) = [.int .i64 days[i], .slice ra rn rc, .int .i64 (onE days[i] ⟨rl, sm, sl, sz⟩ ds).minute, .int .i64 (onE days[i] ⟨rl, sm, sl, sz⟩ ds).length, .string (onE days[i] ⟨rl, sm, sl, sz⟩ ds).zone, .int .i64 sg, .int .i64 sf, .slice none 0 0] := by rw [hti]; rfl
            have hst : sameTi ti yt = (decide (yt.minute = (onE days[i] ⟨rl, sm, sl, sz⟩ ds).minute) && decide (yt.length = (onE days[i] ⟨rl, sm, sl, sz⟩ ds).length) && decide ((onE days[i] ⟨rl, sm, sl, sz⟩ ds).rule = yt.rule)) := by rw [hti]; rfl
            have hold : sameTi ti yt = true → partsGo e (tiOn ⟨.slice none 0 0, sm, sl, sz, sg, sf, .slice none 0 0⟩ rl ds) (days.drop (i + 1)) (ps.map fun p => (p.1, p.2.1)) = partsGo e (tiOn ⟨.slice none 0 0, sm, sl, sz, sg, sf, .slice none 0 0⟩ rl ds) days [] := fun hs => by
              rw [← hgo, hps, List.map_append]
              exact (partsGo_same (by omega) (by rw [← hti]; exact hs)).symm
            have hnew : sameTi ti yt = false → partsGo e (tiOn ⟨.slice none 0 0, sm, sl, sz, sg, sf, .slice none 0 0⟩ rl ds) (days.drop (i + 1)) ((ps ++ [(days[i], ti, Value.slice ra rn rc)]).map fun p => (p.1, p.2.1)) = partsGo e (tiOn ⟨.slice none 0 0, sm, sl, sz, sg, sf, .slice none 0 0⟩ rl ds) days [] := fun hs => by
              rw [← hgo, List.map_append, hps, List.map_append, hti]
              exact (partsGo_new (by omega) (by rw [← hti]; exact hs)).symm
            clear hgo
            have hpo6 : ∀ R6 : RO, RO.le R5 R6 → ∀ p ∈ ps ++ [(days[i], ti, Value.slice ra rn rc)], Pp.OK R6 p := fun R6 hle6 p hp => by
              rcases List.mem_append.1 hp with hp | hp
              · exact (hpo5 p hp).mono hle6
              · simp only [List.mem_cons, List.not_mem_nil, or_false] at hp; subst hp; rw [hti]; exact hrv.mono hle6
            refine ⟨fun q1 => ⟨fun q2 => ?_, fun q2 => ?_⟩, fun q1 => ?_⟩
            · refine vcall (eSameRule _ yt.rule _ _ R5 hrv hyo) ?_
              rintro R6 v hle6 rfl
              simp only [go_sem, ↓reduceIte, Nat.reduceEqDiff, Nat.reduceAdd, Nat.reduceMul, Nat.reduceLeDiff, Nat.reduceLT, Nat.reduceBNe, reduceCtorEq, e31, e30, e29, e1', e6]
              refine ⟨fun q3 => ?_, fun q3 => ?_⟩
              · refine ⟨_, W.in64 (by omega), (i + 1, ps), [], ?_⟩
                try simp only [go_sem, ↓reduceIte, Nat.reduceEqDiff, Nat.reduceAdd, Nat.reduceMul, Nat.reduceLeDiff, Nat.reduceLT, Nat.reduceBNe, reduceCtorEq]
                exact ⟨by omega, rfl, by decide, by omega, fun _ => by rw [hps]; simp, by omega, fun p hp => (hpo5 p hp).mono hle6, hold (by rw [hst]; simp [q1, q2, q3])⟩
              · rw [← hcl, ← gs_pos (show ps.length ≠ 0 by omega), ← hgb]
                refine happ R6 hle6 rfl ?_
                simp only [go_sem, ↓reduceIte, Nat.reduceEqDiff, Nat.reduceAdd, Nat.reduceMul, Nat.reduceLeDiff, Nat.reduceLT, Nat.reduceBNe, reduceCtorEq, e31, e30, e29, e1', e6]
                refine ⟨_, W.in64 (by omega), (i + 1, ps ++ [(days[i], ti, .slice ra rn rc)]), [0, 1, 6], ?_⟩
                try simp only [go_sem, ↓reduceIte, Nat.reduceEqDiff, Nat.reduceAdd, Nat.reduceMul, Nat.reduceLeDiff, Nat.reduceLT, Nat.reduceBNe, reduceCtorEq]
                exact ⟨by omega, rfl, by decide, by omega, fun _ => by simp, by omega, hpo6 R6 hle6, hnew (by rw [hst]; simp [q1, q2, q3])⟩
            · rw [← hcl, ← gs_pos (show ps.length ≠ 0 by omega), ← hgb]
              refine happ R5 (RO.le_refl _) rfl ?_
              simp only [go_sem, ↓reduceIte, Nat.reduceEqDiff, Nat.reduceAdd, Nat.reduceMul, Nat.reduceLeDiff, Nat.reduceLT, Nat.reduceBNe, reduceCtorEq, e31, e30, e29, e1', e6]
              refine ⟨_, W.in64 (by omega), (i + 1, ps ++ [(days[i], ti, .slice ra rn rc)]), [0, 1, 6], ?_⟩
              try simp only [go_sem, ↓reduceIte, Nat.reduceEqDiff, Nat.reduceAdd, Nat.reduceMul, Nat.reduceLeDiff, Nat.reduceLT, Nat.reduceBNe, reduceCtorEq]
              exact ⟨by omega, rfl, by decide, by omega, fun _ => by simp, by omega, hpo6 R5 (RO.le_refl _), hnew (by rw [hst]; simp [q1, q2])⟩
            · rw [← hcl, ← gs_pos (show ps.length ≠ 0 by omega), ← hgb]
              refine happ R5 (RO.le_refl _) rfl ?_
              simp only [go_sem, ↓reduceIte, Nat.reduceEqDiff, Nat.reduceAdd, Nat.reduceMul, Nat.reduceLeDiff, Nat.reduceLT, Nat.reduceBNe, reduceCtorEq, e31, e30, e29, e1', e6]
              refine ⟨_, W.in64 (by omega), (i + 1, ps ++ [(days[i], ti, .slice ra rn rc)]), [0, 1, 6], ?_⟩
              try simp only [go_sem, ↓reduceIte, Nat.reduceEqDiff, Nat.reduceAdd, Nat.reduceMul, Nat.reduceLeDiff, Nat.reduceLT, Nat.reduceBNe, reduceCtorEq]
              exact ⟨by omega, rfl, by decide, by omega, fun _ => by simp, by omega, hpo6 R5 (RO.le_refl _), hnew (by rw [hst]; simp [q1])⟩
      · obtain rfl : i = days.length := by omega
        rw [List.drop_length, partsGo_nil] at hgo
        have h1 : ps ≠ [] := hne (List.length_pos_iff.2 hd0)
        have h2 : ps.length ≠ 0 := fun h => h1 (List.eq_nil_of_length_eq_zero h)
        refine ⟨ps, h1, hpo, ?_, 2, gs_pos h2, ?_⟩
        · rw [hgo, hdays]; rfl
        · rw [gb_ne (fun e => h2 (by have := rowPp_len ps; rw [e] at this; simp at this; omega))]; rfl
end Go.Proofs.Ytpnhiknfcpkfbaa
namespace Go.Proofs.Ytpnhiknfcpkfbaa
set_option linter.unusedSimpArgs false
set_option linter.unusedVariables false
open Go.Proofs.Ytpnhiknfcpkfbaa.Vc
/-- The moves are valid, in increasing order. -/
def movesOK : Option Int → List Mv → Bool
  | _, [] => true
  | p, m :: r => moveOK m && ((match p with | none => true | some d => decide (d < m.day)) && movesOK (some m.day) r)
def sortM (l : List Mv) : List Mv := l.mergeSort fun a b => decide (a.day ≤ b.day)
/-- The number of the part that holds a day. -/
def partAt (days : List Int) (day : Int) : Nat := (days.filter fun f => decide (f ≤ day)).length - 1
def placeD (ps : List (Int × Ti)) (ys : List Mv) : List Pa := ps.mapIdx fun i p => ⟨p.1, p.2, ys.filter fun m => decide (partAt (ps.map (·.1)) m.day = i)⟩
def mergeP (s : Se) (rl : List Nd) (ms : List Mv) (o : List De) : List Pa :=
  placeD (partsD s rl (forceD o) (endE (forceD o))) (sortM (movesD ms (forceD o) (endE (forceD o))))
/-- The cells of a part. -/
def PartV (R : RO) (c : List Value) (p : Pa) : Prop := ∃ rv mv, c = paCells p.day ⟨rv, p.ti.minute, p.ti.length, p.ti.zone, p.ti.gap, p.ti.fold, mv⟩ ∧ RuleV R rv p.ti.rule ∧ EncV Mv.cells 5 R mv p.moves
theorem PartV.mono {R R' : RO} {c : List Value} {p : Pa} (h : PartV R c p) (hle : RO.le R R') : PartV R' c p := by
  obtain ⟨rv, mv, e, h1, h2⟩ := h
  exact ⟨rv, mv, e, h1.mono hle, h2.mono hle⟩
def PartsV (R : RO) (v : Value) (ps : List Pa) : Prop := ∃ cs : List (List Value), SlK R v 8 cs ∧ cs.length = ps.length ∧ (∀ (i : Nat) (c : List Value) (p : Pa), cs[i]? = some c → ps[i]? = some p → PartV R c p) ∧ ps.length ≤ 1000000000
theorem PartsV.mono {R R' : RO} {v : Value} {ps : List Pa} (h : PartsV R v ps) (hle : RO.le R R') : PartsV R' v ps := by
  obtain ⟨cs, h1, h2, h3, h4⟩ := h
  exact ⟨cs, h1.mono hle, h2, fun i c p hi hp => (h3 i c p hi hp).mono hle, h4⟩
/-- What Merge hands back. -/
def MergeV (R : RO) (r : Value) (s : Se) (rl : List Nd) (ms : List Mv) (ds : List De) : Prop := match allD ds with
  | .error k => r = .tuple #[.slice none 0 0, .slice none 0 0, .int .i64 k]
  | .ok o => if s.length < 1 ∨ movesOK none ms = false then r = .tuple #[.slice none 0 0, .slice none 0 0, .int .i64 1]
    else ∃ u v, r = .tuple #[u, v, .int .i64 0] ∧ PartsV R u (mergeP s rl ms o) ∧ EncV Ov.cells 4 R v (recsD o)

/-! ### Plain facts -/
theorem validD_day {d : De} (h : validD d = true) : 0 ≤ d.day := by
  unfold validD validE betw at h
  simp only [Bool.and_eq_true, decide_eq_true_eq] at h
  exact h.1.2.1
theorem distD_valid : ∀ {l out o : List De}, distD out l = some o → (∀ d ∈ out, validD d = true) → ∀ d ∈ o, validD d = true
  | [], out, o, h, hv => by simp only [distD, Option.some.injEq] at h; subst h; exact hv
  | x :: l, out, o, h, hv => by
    rw [distD] at h
    cases hx : addD out x with
    | none => rw [hx] at h; cases h
    | some o' =>
      rw [hx] at h
      refine distD_valid h fun d hd => ?_
      unfold addD at hx
      split at hx
      · rename_i hvx
        split at hx
        · split at hx
          · cases hx; exact hv d hd
          · cases hx
        · cases hx
          rcases List.mem_append.1 hd with hd | hd
          · exact hv d hd
          · simp only [List.mem_cons, List.not_mem_nil, or_false] at hd; subst hd; exact hvx
      · cases hx
theorem allD_ok {l o : List De} (h : allD l = .ok o) : ∃ o', distD [] l = some o' ∧ o = sortD o' := by
  unfold allD at h
  split at h
  · cases h
  · cases hd : distD [] l with
    | none => rw [hd] at h; cases h
    | some o' => rw [hd] at h; simp only [okD, Except.ok.injEq] at h; exact ⟨o', rfl, h.symm⟩
theorem allD_valid {l o : List De} (h : allD l = .ok o) : ∀ d ∈ o, validD d = true := by
  obtain ⟨o', h1, rfl⟩ := allD_ok h
  intro d hd
  exact distD_valid h1 (by simp) d ((sortD_perm o').mem_iff.1 hd)
theorem allD_sorted {l o : List De} (h : allD l = .ok o) : SortedD o := by
  obtain ⟨o', h1, rfl⟩ := allD_ok h
  exact sortD_sorted (distD_keys h1 List.Pairwise.nil)
theorem addD_len {out o : List De} {d : De} (h : addD out d = some o) : o.length ≤ out.length + 1 := by
  unfold addD at h
  split at h
  · split at h
    · split at h
      · cases h; omega
      · cases h
    · cases h; simp
  · cases h
theorem distD_len : ∀ {l out o : List De}, distD out l = some o → o.length ≤ out.length + l.length
  | [], out, o, h => by simp only [distD, Option.some.injEq] at h; subst h; simp
  | x :: l, out, o, h => by
    rw [distD] at h
    cases hx : addD out x with
    | none => rw [hx] at h; cases h
    | some o' => rw [hx] at h; have := distD_len h; have := addD_len hx; simp; omega
theorem allD_len {l o : List De} (h : allD l = .ok o) : o.length ≤ l.length := by
  obtain ⟨o', h1, rfl⟩ := allD_ok h
  have := distD_len h1
  rw [(sortD_perm o').length_eq]; simpa using this
/-- The days on which parts begin are among those that are tried, in their order; the first one is there. -/
theorem partsGo_days (e : Int) (f : Int → Ti) : ∀ (l : List Int) (out : List (Int × Ti)), ∃ r, (partsGo e f l out).map (·.1) = out.map (·.1) ++ r ∧ r.Sublist l
  | [], out => ⟨[], by simp [partsGo], List.Sublist.refl _⟩
  | d :: l, out => by
    rw [partsGo]
    split
    · exact ⟨[d], by simp, by simp⟩
    · have h1 : ∃ r, (partsGo e f l out).map (·.1) = out.map (·.1) ++ r ∧ r.Sublist (d :: l) := by
        obtain ⟨r, h1, h2⟩ := partsGo_days e f l out
        exact ⟨r, h1, h2.cons d⟩
      have h2 : ∃ r, (partsGo e f l (out ++ [(d, f d)])).map (·.1) = out.map (·.1) ++ r ∧ r.Sublist (d :: l) := by
        obtain ⟨r, h1, h2⟩ := partsGo_days e f l (out ++ [(d, f d)])
        exact ⟨d :: r, by rw [h1]; simp, h2.cons_cons d⟩
      split
      · split
        · exact h1
        · exact h2
      · exact h2
theorem partsGo_head (e : Int) (f : Int → Ti) (d : Int) (l : List Int) : ∃ r, (partsGo e f (d :: l) []).map (·.1) = d :: r ∧ r.Sublist l := by
  rw [partsGo]
  split
  · exact ⟨[], by simp, by simp⟩
  · obtain ⟨r, h1, h2⟩ := partsGo_days e f l [(d, f d)]
    exact ⟨r, by simpa using h1, h2⟩
theorem rising_zero {l : List Int} (h : ∀ x ∈ l, 0 ≤ x) : ∃ r, rising (0 :: l) = 0 :: r := by
  have hi := rising_inc (0 :: l)
  cases hr : rising (0 :: l) with
  | nil => have : (0 : Int) ∈ rising (0 :: l) := by rw [mem_rising]; simp
           rw [hr] at this; simp at this
  | cons x r =>
    have h0 : (0 : Int) ∈ rising (0 :: l) := by rw [mem_rising]; simp
    have hx : 0 ≤ x := by
      have : x ∈ rising (0 :: l) := by rw [hr]; simp
      rw [mem_rising] at this
      rcases List.mem_cons.1 this with h' | h'
      · omega
      · exact h x h'
    rw [hr] at h0 hi
    rcases List.mem_cons.1 h0 with h' | h'
    · exact ⟨r, by rw [← h']⟩
    · have := (List.pairwise_cons.1 hi).1 0 h'; omega
theorem partsD_days (s : Se) (rl : List Nd) (ds : List De) (e : Int) (h : ∀ d ∈ ds, 0 ≤ d.day) : Inc ((partsD s rl ds e).map (·.1)) ∧ (∃ r, (partsD s rl ds e).map (·.1) = 0 :: r) ∧ (partsD s rl ds e).length ≤ ds.length + 1 := by
  obtain ⟨r, hr⟩ := rising_zero (l := ds.map (·.day)) (fun x hx => by obtain ⟨d, hd, rfl⟩ := List.mem_map.1 hx; exact h d hd)
  have hi := rising_inc (0 :: ds.map (·.day))
  have hl := rising_len (0 :: ds.map (·.day))
  unfold partsD
  rw [hr] at *
  obtain ⟨q, h1, h2⟩ := partsGo_head e (tiOn s rl ds) 0 r
  refine ⟨?_, ⟨q, h1⟩, ?_⟩
  · rw [h1]; exact List.Pairwise.sublist (h2.cons_cons 0) hi
  · have h3 := congrArg List.length h1
    rw [List.length_map] at h3
    have := h2.length_le
    simp at h3 hl
    omega
theorem Inc.filter_le {l : List Int} (h : Inc l) {i : Nat} (hi : i < l.length) (day : Int) (h1 : l[i] ≤ day) (h2 : ∀ j, (hj : j < l.length) → i < j → day < l[j]) : (l.filter fun f => decide (f ≤ day)).length = i + 1 := by
  have e : l = l.take (i + 1) ++ l.drop (i + 1) := (List.take_append_drop _ _).symm
  have f1 : (l.take (i + 1)).filter (fun f => decide (f ≤ day)) = l.take (i + 1) := by
    rw [List.filter_eq_self]
    intro a ha
    obtain ⟨j, hj, rfl⟩ := List.mem_iff_getElem.1 ha
    rw [List.getElem_take]
    rw [List.length_take] at hj
    have : l[j] ≤ l[i] := by
      rcases Nat.lt_or_ge j i with hji | hji
      · have := h.get_lt hji hi; omega
      · have : j = i := by omega
        subst this; exact Int.le_refl _
    simp; omega
  have f2 : (l.drop (i + 1)).filter (fun f => decide (f ≤ day)) = [] := by
    rw [List.filter_eq_nil_iff]
    intro a ha
    obtain ⟨j, hj, rfl⟩ := List.mem_iff_getElem.1 ha
    rw [List.getElem_drop]
    rw [List.length_drop] at hj
    have := h2 (i + 1 + j) (by omega) (by omega)
    simp; omega
  conv => lhs; rw [e]
  rw [List.filter_append, f1, f2, List.append_nil, List.length_take]
  omega
theorem partAt_eq {l : List Int} (h : Inc l) {i : Nat} (hi : i < l.length) (day : Int) (h1 : l[i] ≤ day) (h2 : ∀ j, (hj : j < l.length) → i < j → day < l[j]) : partAt l day = i := by
  unfold partAt
  rw [Inc.filter_le h hi day h1 h2]; omega
theorem pairwise_ne_mem {α β : Type} {f : α → β} : ∀ {l : List α}, l.Pairwise (fun a b => f a ≠ f b) → ∀ {a b : α}, a ∈ l → b ∈ l → f a = f b → a = b
  | [], _, a, b, ha, _, _ => by simp at ha
  | x :: l, h, a, b, ha, hb, e => by
    have h' := List.pairwise_cons.1 h
    rcases List.mem_cons.1 ha with ea | ha2
    · rcases List.mem_cons.1 hb with eb | hb2
      · rw [ea, eb]
      · rw [ea] at e; exact absurd e (h'.1 b hb2)
    · rcases List.mem_cons.1 hb with eb | hb2
      · rw [eb] at e; exact absurd e.symm (h'.1 a ha2)
      · exact pairwise_ne_mem h'.2 ha2 hb2 e
theorem sortM_perm (l : List Mv) : (sortM l).Perm l := List.mergeSort_perm _ _
theorem sortM_le (l : List Mv) : (sortM l).Pairwise fun a b => a.day ≤ b.day := by
  have := List.pairwise_mergeSort (le := fun a b : Mv => decide (a.day ≤ b.day)) (fun a b c h1 h2 => by simp at *; omega) (fun a b => by simp; omega) l
  exact this.imp fun h => by simpa using h
theorem sortM_eq {l ys : List Mv} (hd : l.Pairwise fun a b => a.day ≠ b.day) (hp : ys.Perm l) (hs : ys.Pairwise fun a b => a.day ≤ b.day) : ys = sortM l :=
  List.Perm.eq_of_pairwise (le := fun a b : Mv => a.day ≤ b.day) (fun a b ha hb h1 h2 => pairwise_ne_mem (f := Mv.day) hd (hp.mem_iff.1 ha) ((sortM_perm l).mem_iff.1 hb) (by omega)) hs (sortM_le l) (hp.trans (sortM_perm l).symm)
theorem validD_move {d : De} (h : validD d = true) (hk : d.kind = 1) : moveOK d.mv = true ∧ d.mv.day = d.day := by
  unfold validD validE at h
  simp only [Bool.and_eq_true] at h
  have h4 := h.2
  unfold kindE at h4
  rw [if_pos (show (d.ed none d.rule.length 0).kind = 1 from hk)] at h4
  simp only [Bool.and_eq_true, decide_eq_true_eq] at h4
  exact ⟨h4.1.1, h4.1.2⟩
theorem movesOK_pair : ∀ {ms : List Mv} {p : Option Int}, movesOK p ms = true → (ms.Pairwise fun a b => a.day < b.day) ∧ ∀ d, p = some d → ∀ m ∈ ms, d < m.day
  | [], _, _ => ⟨List.Pairwise.nil, by simp⟩
  | x :: r, p, h => by
    have h' : (moveOK x && ((match p with | none => true | some d => decide (d < x.day)) && movesOK (some x.day) r)) = true := by cases p <;> exact h
    simp only [Bool.and_eq_true] at h'
    obtain ⟨h1, h2⟩ := movesOK_pair h'.2.2
    refine ⟨List.pairwise_cons.2 ⟨fun m hm => h2 _ rfl m hm, h1⟩, ?_⟩
    rintro d rfl m hm
    have h3 : d < x.day := by simpa using h'.2.1
    rcases List.mem_cons.1 hm with rfl | hm
    · exact h3
    · have := h2 _ rfl m hm; omega
theorem overD_move {a b : De} (ha : a.kind = 1) (hb : b.kind = 1) : overD a b = (lessD a b && decide (a.day = b.day)) := by
  unfold overD overE
  rw [if_pos ⟨ha, hb⟩]
  rfl
theorem mem_forceD {o : List De} {d : De} : d ∈ forceD o ↔ d ∈ o ∧ ∀ b ∈ o, overD d b = false := by
  unfold forceD
  rw [List.mem_filter]
  simp
theorem forceD_sorted {o : List De} (h : SortedD o) : SortedD (forceD o) := List.Pairwise.sublist List.filter_sublist h
/-- The moves in force are on different days. -/
theorem movesD_ne {ms : List Mv} {o : List De} {e : Int} (hs : SortedD o) (hv : ∀ d ∈ o, validD d = true) (hm : movesOK none ms = true) : (movesD ms (forceD o) e).Pairwise fun a b => a.day ≠ b.day := by
  unfold movesD
  rw [List.pairwise_append]
  refine ⟨?_, ?_, ?_⟩
  · rw [List.pairwise_map]
    have h1 : SortedD ((forceD o).filter isMove) := List.Pairwise.sublist List.filter_sublist (forceD_sorted hs)
    refine List.Pairwise.imp_of_mem (fun {a b} ha hb hab => ?_) h1
    obtain ⟨ha1, ha2⟩ := List.mem_filter.1 ha
    obtain ⟨hb1, hb2⟩ := List.mem_filter.1 hb
    obtain ⟨ha3, ha4⟩ := mem_forceD.1 ha1
    have hb3 := (mem_forceD.1 hb1).1
    have ka : a.kind = 1 := by simpa [isMove] using ha2
    have kb : b.kind = 1 := by simpa [isMove] using hb2
    rw [(validD_move (hv a ha3) ka).2, (validD_move (hv b hb3) kb).2]
    intro hd
    have := ha4 b hb3
    rw [overD_move ka kb, hab, decide_eq_true hd] at this
    cases this
  · refine List.Pairwise.sublist List.filter_sublist ((movesOK_pair hm).1.imp fun h => ?_)
    omega
  · intro a ha b hb
    obtain ⟨d, hd, rfl⟩ := List.mem_map.1 ha
    obtain ⟨hd1, hd2⟩ := List.mem_filter.1 hd
    obtain ⟨hb1, hb2⟩ := List.mem_filter.1 hb
    have kd : d.kind = 1 := by simpa [isMove] using hd2
    rw [(validD_move (hv d (mem_forceD.1 hd1).1) kd).2]
    intro hdd
    simp only [Bool.and_eq_true, Bool.not_eq_true', List.any_eq_false] at hb2
    have := hb2.2.1 d hd1
    simp [isMoveOn, kd, hdd] at this
end Go.Proofs.Ytpnhiknfcpkfbaa
