import Derived.Test.YtpnhiknfcpkfbaaEu
namespace Go.Proofs.Ytpnhiknfcpkfbaa
set_option linter.unusedSimpArgs false
set_option linter.unusedVariables false
open Go.Proofs.Ytpnhiknfcpkfbaa.Vc
def forceD (all : List De) : List De := all.filter fun a => !(all.any (overD a))
def ovOf (a b : De) : Ov := ⟨a.device, a.seq, b.device, b.seq⟩
def recsD (all : List De) : List Ov := all.filterMap fun a => (all.find? (overD a)).map (ovOf a)
theorem idxE_neg {p : De → Bool} : ∀ {l : List De} {i : Nat}, l.any p = false → idxE p i l = -1
  | [], _, _ => rfl
  | d :: l, i, h => by
    simp only [List.any_cons, Bool.or_eq_false_iff] at h
    rw [idxE, if_neg (by simp [h.1])]
    exact idxE_neg h.2
theorem idxE_pos {p : De → Bool} : ∀ {l : List De} {i : Nat} {b : De}, l.find? p = some b → ∃ j : Nat, idxE p i l = ((i + j : Nat) : Int) ∧ l[j]? = some b
  | [], _, _, h => by simp at h
  | d :: l, i, b, h => by
    rw [List.find?_cons] at h
    cases hp : p d with
    | true => rw [hp] at h; simp only [Option.some.injEq] at h; subst h; exact ⟨0, by rw [idxE, if_pos hp]; rfl, rfl⟩
    | false =>
      rw [hp] at h
      obtain ⟨j, h1, h2⟩ := idxE_pos (i := i + 1) h
      exact ⟨j + 1, by rw [idxE, if_neg (by simp [hp]), h1]; congr 1; omega, by simpa using h2⟩
theorem filter_snoc {α : Type} (p : α → Bool) (l : List α) (i : Nat) (h : i < l.length) : (l.take (i + 1)).filter p = (l.take i).filter p ++ if p l[i] = true then [l[i]] else [] := by
  rw [List.take_succ_eq_append_getElem h, List.filter_append]
  cases hp : p l[i] <;> simp [hp]
theorem filterMap_snoc {α β : Type} (f : α → Option β) (l : List α) (i : Nat) (h : i < l.length) : (l.take (i + 1)).filterMap f = (l.take i).filterMap f ++ (f l[i]).toList := by
  rw [List.take_succ_eq_append_getElem h, List.filterMap_append]
  cases hp : f l[i] <;> simp [hp]
def rowO (os : List Ov) : List Value := (os.map Ov.cells).flatten
theorem rowO_len (os : List Ov) : (rowO os).length = os.length * 4 := by
  unfold rowO
  rw [length_flattenK (k := 4) (fun us hus => by obtain ⟨x, _, rfl⟩ := List.mem_map.1 hus; rfl)]
  simp
theorem rowO_snoc (os : List Ov) (o : Ov) : rowO (os ++ [o]) = rowO os ++ o.cells := by simp [rowO]
theorem RowIn.enc {α : Type} {enc : α → List Value} {k : Nat} {R : RO} {b cap : Nat} {xs : List α} (hk : ∀ x, (enc x).length = k) (h0 : 0 < k) (h : RowIn R b (xs.map enc).flatten) (hc : (xs.map enc).flatten.length ≤ cap * k) (hl : xs.length ≤ 1000000000) : EncV enc k R (.slice (some ⟨b, 0, none⟩) xs.length cap) xs := by
  have h1 := RowIn.slK h (fun us hus => by obtain ⟨x, _, rfl⟩ := List.mem_map.1 hus; exact hk x) h0 hc
  rw [List.length_map] at h1
  exact ⟨h1, hl⟩
theorem EncV.nil {α : Type} (enc : α → List Value) (k : Nat) (R : RO) : EncV enc k R (.slice none 0 0) [] := ⟨⟨none, 0, rfl, Nat.le_refl _, by simp⟩, by simp⟩
/-- What Rebase hands back. -/
def RebV (R : RO) (r : Value) (ds : List De) : Prop := match allD ds with
  | .error k => r = .tuple #[.slice none 0 0, .slice none 0 0, .int .i64 k]
  | .ok o => ∃ u v, r = .tuple #[u, v, .int .i64 0] ∧ EdsV R u (forceD o) ∧ EncV Ov.cells 4 R v (recsD o)
theorem hbOver : hasBody Try.prog 33 = true := by kernel_rfl
theorem eRebase (ds : List De) (v : Value) (R : RO) (h : EdsV R v ds) : CallsR Try.prog 17 [v] R fun R' r => RebV R' r ds := by
  have hS := eSorted ds v R h
  obtain ⟨a0, cap0, rfl, _⟩ := h.form
  refine callsT mix Try.func17 comp17 (by simp [Try.ntmps17]) ?_; simp only [go_sem, ↓reduceIte, Nat.reduceEqDiff, Nat.reduceAdd, Nat.reduceMul, Nat.reduceLeDiff, Nat.reduceLT, Nat.reduceBNe, reduceCtorEq, vc17, rs17]
  refine vcall hS ?_
  intro R1 r hle1 hr
  unfold RebV
  cases hall : allD ds with
  | error k =>
    have hk := allD_error hall
    rw [hall] at hr
    dsimp only at hr
    subst hr
    try simp only [go_sem, ↓reduceIte, Nat.reduceEqDiff, Nat.reduceAdd, Nat.reduceMul, Nat.reduceLeDiff, Nat.reduceLT, Nat.reduceBNe, reduceCtorEq]
    exact fun h0 => by omega
  | ok o =>
    rw [hall] at hr
    dsimp only at hr
    obtain ⟨u, rfl, hu⟩ := hr
    have hu' := hu
    have hol : o.length ≤ 1000000000 := by obtain ⟨_, _, _, _, h⟩ := hu; exact h
    obtain ⟨a, cap, rfl, hc, hf⟩ := PlOK.of hu
    try simp only [go_sem, ↓reduceIte, Nat.reduceEqDiff, Nat.reduceAdd, Nat.reduceMul, Nat.reduceLeDiff, Nat.reduceLT, Nat.reduceBNe, reduceCtorEq]
    refine vcLoopR (Nat × List Pl × List Ov) (fun x => [(22, .val (.int .i64 x.1)), (21, .val (.int .i64 o.length)), (20, .val (.slice a o.length cap)), (5, .val (.slice a o.length cap)), (7, gs 0 x.2.1.length), (8, gs 1 x.2.2.length)])
      (fun x => [gb 27 13 (rowP x.2.1), gb 51 4 (rowO x.2.2)])
      (fun x R => x.1 ≤ o.length ∧ x.2.1.map (·.1) = (o.take x.1).filter (fun a => !(o.any (overD a))) ∧ x.2.2 = (o.take x.1).filterMap (fun a => (o.find? (overD a)).map (ovOf a)) ∧ x.2.1.length ≤ x.1 ∧ x.2.2.length ≤ x.1 ∧ ∀ p ∈ x.2.1, PlOK R p) (fun x => o.length - x.1) (0, [], []) [] ?_ ?_ ?_ ?_
    · (try simp only [go_sem, ↓reduceIte, Nat.reduceEqDiff, Nat.reduceAdd, Nat.reduceMul, Nat.reduceLeDiff, Nat.reduceLT, Nat.reduceBNe, reduceCtorEq]) <;> (repeat' (first | rfl | trivial | constructor | (intro h; exact absurd rfl h)))
    · try simp only [go_sem, ↓reduceIte, Nat.reduceEqDiff, Nat.reduceAdd, Nat.reduceMul, Nat.reduceLeDiff, Nat.reduceLT, Nat.reduceBNe, reduceCtorEq]
    · exact ⟨Nat.zero_le _, rfl, rfl, Nat.le_refl _, Nat.le_refl _, by simp⟩
    rintro ⟨i, ps, os⟩ env R2 hle2 hE ⟨hi, hps, hos, hpl, hol2, hpo⟩
    (simp only [go_sem] at hE; obtain ⟨e22, e21, e20, e5, e7, e8⟩ := hE; simp only [go_sem, ↓reduceIte, Nat.reduceEqDiff, Nat.reduceAdd, Nat.reduceMul, Nat.reduceLeDiff, Nat.reduceLT, Nat.reduceBNe, reduceCtorEq, e22, e21, e20, e5, e7, e8]; dsimp only at *)
    refine ⟨fun hlt => ⟨hlt, ?_⟩, fun hge => ?_⟩
    · have hlt' : i < o.length := by omega
      obtain ⟨ad, p, had, hp1, hR, hpok⟩ := hf i hlt'
      have hcells : ∀ j u, (p.ed.cells)[j]? = some u → R2 ((ad.add (i * 13)).add j) u := fun j u hj => hle2 _ _ (hR j u hj)
      have hflt := filter_snoc (fun a => !(o.any (overD a))) o i hlt'
      have hflm := filterMap_snoc (fun a => (o.find? (overD a)).map (ovOf a)) o i hlt'
      rw [← hp1] at hflt hflm
      refine vat ad had ?_
      try simp only [go_sem, ↓reduceIte, Nat.reduceEqDiff, Nat.reduceAdd, Nat.reduceMul, Nat.reduceLeDiff, Nat.reduceLT, Nat.reduceBNe, reduceCtorEq]
      refine vloadn p.ed.cells rfl hcells ?_
      simp only [go_sem, ↓reduceIte, Nat.reduceEqDiff, Nat.reduceAdd, Nat.reduceMul, Nat.reduceLeDiff, Nat.reduceLT, Nat.reduceBNe, reduceCtorEq, Ed.cells, Pl.ed, De.ed, e22, e21, e20, e5, e7, e8]
      refine vlend ?_
      intro β κ R3 hL
      have hbox := hL.2 2 _ rfl
      have hLle := hL.1
      refine ⟨_, eIndexFunc 33 [.pointer (some ⟨β 2, 0, none⟩)] hbOver (overD p.1) o _ R3 ((hu'.mono hle2).mono hLle) ?_, ?_⟩
      · intro d cs R4 hle4 hd
        have := eOverF p.ed d cs ⟨β 2, 0, none⟩ R4 (fun j u hj => by rw [Addr.add_lit, Nat.zero_add]; exact hle4 _ _ (hbox j u hj)) hd
        exact this
      rintro R4 v R5 hle4 rfl hle5 _
      simp only [go_sem, ↓reduceIte, Nat.reduceEqDiff, Nat.reduceAdd, Nat.reduceMul, Nat.reduceLeDiff, Nat.reduceLT, Nat.reduceBNe, reduceCtorEq, e22, e21, e20, e5, e7, e8]
      have hpo5 : ∀ q ∈ ps, PlOK R5 q := fun q hq => (hpo q hq).mono hle5
      refine ⟨fun hn => ?_, fun hn => ?_⟩
      · have hany : o.any (overD p.1) = false := by
          cases hf : o.find? (overD p.1) with
          | none => rw [List.any_eq_false]; exact fun x hx => List.find?_eq_none.1 hf x hx
          | some b => obtain ⟨j, hj, _⟩ := idxE_pos (i := 0) hf; omega
        have hfind : o.find? (overD p.1) = none := List.find?_eq_none.2 (List.any_eq_false.1 hany)
        rw [hany, if_pos (by rfl)] at hflt
        rw [hfind] at hflm
        refine vgrow (rowP ps) (fun h0 => by rw [gb_ne h0]; rfl) (fun h0 => by rw [h0, gb_nil]; rfl) (by rw [rowP_len]) (by omega) (by omega) (by omega) ?_
        simp only [go_sem, ↓reduceIte, Nat.reduceEqDiff, Nat.reduceAdd, Nat.reduceMul, Nat.reduceLeDiff, Nat.reduceLT, Nat.reduceBNe, reduceCtorEq, e22, e21, e20, e5, e7, e8]
        refine ⟨_, W.in64 (by omega), (i + 1, ps ++ [p], os), [4, 1], ?_⟩
        try simp only [go_sem, ↓reduceIte, Nat.reduceEqDiff, Nat.reduceAdd, Nat.reduceMul, Nat.reduceLeDiff, Nat.reduceLT, Nat.reduceBNe, reduceCtorEq]
        refine ⟨by omega, ⟨rfl, fun _ => by rw [rowP_snoc]; rfl, fun h => gb_ne h⟩, by decide, by omega, by rw [hflt, ← hps]; simp, by rw [hflm, hos]; simp, by omega, by omega, fun q hq => ?_⟩
        rcases List.mem_append.1 hq with hq | hq
        · exact hpo5 q hq
        · simp only [List.mem_cons, List.not_mem_nil, or_false] at hq; subst hq; exact hpok.mono (RO.le_trans hle2 hle5)
      · have hany : o.any (overD p.1) = true := by
          cases ha : o.any (overD p.1) with
          | true => rfl
          | false => rw [idxE_neg ha] at hn; omega
        obtain ⟨b, hb⟩ : ∃ b, o.find? (overD p.1) = some b := by
          cases hf : o.find? (overD p.1) with
          | none => rw [List.find?_eq_none] at hf; rw [List.any_eq_true] at hany; obtain ⟨x, hx, hx'⟩ := hany; exact absurd hx' (hf x hx)
          | some b => exact ⟨b, rfl⟩
        rw [hany, if_neg (by simp)] at hflt
        rw [hb] at hflm
        obtain ⟨j, hj, hbj⟩ := idxE_pos (i := 0) hb
        rw [Nat.zero_add] at hj
        obtain ⟨hjl, hbe⟩ := List.getElem?_eq_some_iff.1 hbj
        obtain ⟨adb, q, hadb, hq1, hRq, _⟩ := hf j hjl
        rw [hbe] at hq1
        have hcq : ∀ k u, (q.ed.cells)[k]? = some u → R5 ((adb.add (j * 13)).add k) u := fun k u hk => hle5 _ _ (hle2 _ _ (hRq k u hk))
        rw [hj]
        try simp only [go_sem, ↓reduceIte, Nat.reduceEqDiff, Nat.reduceAdd, Nat.reduceMul, Nat.reduceLeDiff, Nat.reduceLT, Nat.reduceBNe, reduceCtorEq]
        refine ⟨by omega, vat adb hadb ?_⟩
        try simp only [go_sem, ↓reduceIte, Nat.reduceEqDiff, Nat.reduceAdd, Nat.reduceMul, Nat.reduceLeDiff, Nat.reduceLT, Nat.reduceBNe, reduceCtorEq]
        refine vload _ (hcq 2 _ rfl) ?_
        simp only [go_sem, ↓reduceIte, Nat.reduceEqDiff, Nat.reduceAdd, Nat.reduceMul, Nat.reduceLeDiff, Nat.reduceLT, Nat.reduceBNe, reduceCtorEq, e22, e21, e20, e5, e7, e8]
        refine ⟨by omega, vat adb hadb ?_⟩
        try simp only [go_sem, ↓reduceIte, Nat.reduceEqDiff, Nat.reduceAdd, Nat.reduceMul, Nat.reduceLeDiff, Nat.reduceLT, Nat.reduceBNe, reduceCtorEq]
        refine vload _ (hcq 3 _ rfl) ?_
        simp only [go_sem, ↓reduceIte, Nat.reduceEqDiff, Nat.reduceAdd, Nat.reduceMul, Nat.reduceLeDiff, Nat.reduceLT, Nat.reduceBNe, reduceCtorEq, e22, e21, e20, e5, e7, e8]
        refine vgrow (rowO os) (fun h0 => by rw [gb_ne h0]; rfl) (fun h0 => by rw [h0, gb_nil]; rfl) (by rw [rowO_len]) (by omega) (by omega) (by omega) ?_
        simp only [go_sem, ↓reduceIte, Nat.reduceEqDiff, Nat.reduceAdd, Nat.reduceMul, Nat.reduceLeDiff, Nat.reduceLT, Nat.reduceBNe, reduceCtorEq, e22, e21, e20, e5, e7, e8]
        refine ⟨_, W.in64 (by omega), (i + 1, ps, os ++ [ovOf p.1 b]), [0, 4], ?_⟩
        try simp only [go_sem, ↓reduceIte, Nat.reduceEqDiff, Nat.reduceAdd, Nat.reduceMul, Nat.reduceLeDiff, Nat.reduceLT, Nat.reduceBNe, reduceCtorEq]
        refine ⟨by omega, ⟨rfl, fun h => gb_ne h, fun _ => by rw [rowO_snoc, ← hq1]; rfl⟩, by decide, by omega, by rw [hflt, ← hps]; simp, by rw [hflm, hos]; simp, by omega, by omega, hpo5⟩
    · obtain rfl : i = o.length := by omega
      rw [List.take_length] at hps hos
      by_cases h1 : ps.length = 0
      · rw [h1]
        obtain rfl : ps = [] := List.eq_nil_of_length_eq_zero h1
        by_cases h2 : os.length = 0
        · rw [h2]
          try simp only [go_sem, ↓reduceIte, Nat.reduceEqDiff, Nat.reduceAdd, Nat.reduceMul, Nat.reduceLeDiff, Nat.reduceLT, Nat.reduceBNe, reduceCtorEq]
          obtain rfl : os = [] := List.eq_nil_of_length_eq_zero h2
          refine ⟨_, _, rfl, ?_, ?_⟩
          · unfold forceD; rw [← hps]; exact EdsV.nil R2
          · unfold recsD; rw [← hos]; exact EncV.nil _ _ R2
        · rw [gs_pos h2]
          try simp only [go_sem, ↓reduceIte, Nat.reduceEqDiff, Nat.reduceAdd, Nat.reduceMul, Nat.reduceLeDiff, Nat.reduceLT, Nat.reduceBNe, reduceCtorEq]
          rw [gb_ne (fun e => h2 (by have := rowO_len os; rw [e] at this; simp at this; omega))]
          try simp only [go_sem, ↓reduceIte, Nat.reduceEqDiff, Nat.reduceAdd, Nat.reduceMul, Nat.reduceLeDiff, Nat.reduceLT, Nat.reduceBNe, reduceCtorEq]
          intro b cap' R3 hle3 hrow hcap hfr
          refine ⟨_, _, rfl, ?_, ?_⟩
          · unfold forceD; rw [← hps]; exact EdsV.nil R3
          · unfold recsD; rw [← hos]; exact RowIn.enc (fun _ => rfl) (by omega) hrow hcap (by omega)
      · rw [gs_pos h1]
        try simp only [go_sem, ↓reduceIte, Nat.reduceEqDiff, Nat.reduceAdd, Nat.reduceMul, Nat.reduceLeDiff, Nat.reduceLT, Nat.reduceBNe, reduceCtorEq]
        rw [gb_ne (fun e => h1 (by have := rowP_len ps; rw [e] at this; simp at this; omega))]
        try simp only [go_sem, ↓reduceIte, Nat.reduceEqDiff, Nat.reduceAdd, Nat.reduceMul, Nat.reduceLeDiff, Nat.reduceLT, Nat.reduceBNe, reduceCtorEq]
        intro b cap' R3 hle3 hrow hcap hfr
        have hF : EdsV R3 (.slice (some ⟨b, 0, none⟩) ps.length cap') (forceD o) := by
          unfold forceD
          rw [← hps]
          exact EdsV.row hrow hcap (fun p hp => (hpo p hp).mono hle3) (by omega)
        by_cases h2 : os.length = 0
        · rw [h2]
          try simp only [go_sem, ↓reduceIte, Nat.reduceEqDiff, Nat.reduceAdd, Nat.reduceMul, Nat.reduceLeDiff, Nat.reduceLT, Nat.reduceBNe, reduceCtorEq]
          obtain rfl : os = [] := List.eq_nil_of_length_eq_zero h2
          refine ⟨_, _, rfl, hF, ?_⟩
          unfold recsD; rw [← hos]; exact EncV.nil _ _ R3
        · rw [gs_pos h2]
          try simp only [go_sem, ↓reduceIte, Nat.reduceEqDiff, Nat.reduceAdd, Nat.reduceMul, Nat.reduceLeDiff, Nat.reduceLT, Nat.reduceBNe, reduceCtorEq]
          rw [gb_ne (fun e => h2 (by have := rowO_len os; rw [e] at this; simp at this; omega))]
          try simp only [go_sem, ↓reduceIte, Nat.reduceEqDiff, Nat.reduceAdd, Nat.reduceMul, Nat.reduceLeDiff, Nat.reduceLT, Nat.reduceBNe, reduceCtorEq]
          intro b' cap'' R4 hle4 hrow' hcap2 hfr'
          refine ⟨_, _, rfl, hF.mono hle4, ?_⟩
          unfold recsD; rw [← hos]; exact RowIn.enc (fun _ => rfl) (by omega) hrow' hcap2 (by omega)
end Go.Proofs.Ytpnhiknfcpkfbaa
