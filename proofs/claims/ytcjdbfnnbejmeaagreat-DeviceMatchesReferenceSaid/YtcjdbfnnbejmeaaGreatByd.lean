/- Lemmas of our own, no statement of the seat; the last one of the claim's texts proves the law. -/
import Derived.Test.YtcjdbfnnbejmeaaGreatByc
import Derived.Test.YtcjdbfnnbejmeaaGreatByb
open Nat renaming reduceEqDiff → nQ1, reduceAdd → nQ2, reduceMul → nQ3, reduceLeDiff → nQ4, reduceLT → nQ5, reduceBNe → nQ6
open Int renaming reduceLE → iQ1, reduceLT → iQ2, reduceToNat → iQ3, cast_ofNat_Int → iQ4, reduceEq → iQ5, reduceNe → iQ6
namespace Go.Proofs.YtcjdbfnnbejmeaaGreat
set_option linter.unusedSimpArgs false
set_option linter.unusedVariables false
open Go.Proofs.YtcjdbfnnbejmeaaGreat.Vc
def forceD (all : List De) : List De := all.filter fun a => !(all.any (overD a))
def ovOf (a b : De) : Ov := ⟨a.device, a.seq, b.device, b.seq⟩
def recsD (all : List De) : List Ov := all.filterMap fun a => (all.find? (overD a)).map (ovOf a)
theorem idxE_neg {p : De → Bool} : ∀ {l : List De} {i : Nat}, l.any p = false → idxE p i l = -1
 | [], _, _ => rfl
 | d :: l, i, h => by
  simp only [List.any_cons, Bool.or_eq_false_iff] at h
  rw [idxE, if_neg (by simp [h.1])]
  exact idxE_neg h.2
theorem idxE_pos {p : De → Bool} : ∀ {l : List De} {i : Nat} {b : De}, l.find? p = some b → ∃ j : Nat, idxE p i l = ((i + j : Nat) : Int) ∧ l[j]? = some b
 | [], _, _, h => by simp at h
 | d :: l, i, b, h => by
  rw [List.find?_cons] at h
  cases hp : p d with
  | true => rw [hp] at h; simp only [Option.some.injEq] at h; subst h; exact ⟨0, by rw [idxE, if_pos hp]; rfl, rfl⟩
  | false =>
   rw [hp] at h
   obtain ⟨j, h1, h2⟩ := idxE_pos (i := i + 1) h
   exact ⟨j + 1, by rw [idxE, if_neg (by simp [hp]), h1]; congr 1; omega, by simpa using h2⟩
theorem filter_snoc {α : Type} (p : α → Bool) (l : List α) (i : Nat) (h : i < l.length) : (l.take (i + 1)).filter p = (l.take i).filter p ++ if p l[i] = true then [l[i]] else [] := by
 rw [List.take_succ_eq_append_getElem h, List.filter_append]
 cases hp : p l[i] <;> simp [hp]
theorem filterMap_snoc {α β : Type} (f : α → Option β) (l : List α) (i : Nat) (h : i < l.length) : (l.take (i + 1)).filterMap f = (l.take i).filterMap f ++ (f l[i]).toList := by
 rw [List.take_succ_eq_append_getElem h, List.filterMap_append]
 cases hp : f l[i] <;> simp [hp]
def rowO (os : List Ov) : List Value := (os.map Ov.cells).flatten
theorem rowO_len (os : List Ov) : (rowO os).length = os.length * 4 := by
 unfold rowO
 rw [length_flattenK (k := 4) (fun us hus => by obtain ⟨x, _, rfl⟩ := List.mem_map.1 hus; rfl)]
 simp
theorem rowO_snoc (os : List Ov) (o : Ov) : rowO (os ++ [o]) = rowO os ++ o.cells := by simp [rowO]
def RebV (R : RO) (r : Value) (ds : List De) : Prop := match allD ds with
 | .error k => r = .tuple #[.slice none 0 0, .slice none 0 0, .int .i64 k]
 | .ok o => ∃ u v, r = .tuple #[u, v, .int .i64 0] ∧ EdsV R u (forceD o) ∧ EncV Ov.cells 4 R v (recsD o)
theorem hbOver : hasBody Tryz.prog 58 = true := by kernel_rfl
theorem eRebase (ds : List De) (v : Value) (R : RO) (h : EdsV R v ds) : CallsR Tryz.prog 47 [v] R fun R' r => RebV R' r ds := by
 have hS := eSorted ds v R h
 obtain ⟨a0, cap0, rfl, _⟩ := h.form
 refine callsT mix Tryz.func47 comp47 (by simp [Tryz.ntmps47]) ?_; simp only [go_sem, ↓reduceIte, nQ1, nQ2, nQ3, nQ4, nQ5, nQ6, reduceCtorEq, vc47, rs47]
 refine vcall hS ?_
 intro R1 r hle1 hr
 unfold RebV
 cases hall : allD ds with
 | error k =>
  have hk := allD_error hall
  rw [hall] at hr
  dsimp only at hr
  subst hr
  try simp only [go_sem, ↓reduceIte, nQ1, nQ2, nQ3, nQ4, nQ5, nQ6, reduceCtorEq]
  exact fun h0 => by omega
 | ok o =>
  rw [hall] at hr
  dsimp only at hr
  obtain ⟨u, rfl, hu⟩ := hr
  have hu' := hu
  have hol : o.length ≤ 1000000000 := by obtain ⟨_, _, _, _, h⟩ := hu; exact h
  obtain ⟨a, cap, rfl, hc, hf⟩ := PlOK.of hu
  try simp only [go_sem, ↓reduceIte, nQ1, nQ2, nQ3, nQ4, nQ5, nQ6, reduceCtorEq]
  refine vcLoopR (Nat × List Pl × List Ov) (fun x => [(22, .val (.int .i64 x.1)), (21, .val (.int .i64 o.length)), (20, .val (.slice a o.length cap)), (5, .val (.slice a o.length cap)), (7, gs 0 x.2.1.length), (8, gs 1 x.2.2.length)])
   (fun x => [gb 31 13 (rowP x.2.1), gb 57 4 (rowO x.2.2)])
   (fun x R => x.1 ≤ o.length ∧ x.2.1.map (·.1) = (o.take x.1).filter (fun a => !(o.any (overD a))) ∧ x.2.2 = (o.take x.1).filterMap (fun a => (o.find? (overD a)).map (ovOf a)) ∧ x.2.1.length ≤ x.1 ∧ x.2.2.length ≤ x.1 ∧ ∀ p ∈ x.2.1, PlOK R p) (fun x => o.length - x.1) (0, [], []) [] ?_ ?_ ?_ ?_
  ·(try simp only [go_sem, ↓reduceIte, nQ1, nQ2, nQ3, nQ4, nQ5, nQ6, reduceCtorEq]) <;> (repeat' (first | rfl | trivial | constructor | (intro h; exact absurd rfl h)))
  ·try simp only [go_sem, ↓reduceIte, nQ1, nQ2, nQ3, nQ4, nQ5, nQ6, reduceCtorEq]
  ·exact ⟨Nat.zero_le _, rfl, rfl, Nat.le_refl _, Nat.le_refl _, by simp⟩
  rintro ⟨i, ps, os⟩ env R2 hle2 hE ⟨hi, hps, hos, hpl, hol2, hpo⟩
  (simp only [go_sem] at hE; obtain ⟨e22, e21, e20, e5, e7, e8⟩ := hE; simp only [go_sem, ↓reduceIte, nQ1, nQ2, nQ3, nQ4, nQ5, nQ6, reduceCtorEq, e22, e21, e20, e5, e7, e8]; dsimp only at *)
  refine ⟨fun hlt => ⟨hlt, ?_⟩, fun hge => ?_⟩
  ·have hlt' : i < o.length := by omega
   obtain ⟨ad, p, had, hp1, hR, hpok⟩ := hf i hlt'
   have hcells : ∀ j u, (p.ed.cells)[j]? = some u → R2 ((ad.add (i * 13)).add j) u := fun j u hj => hle2 _ _ (hR j u hj)
   have hflt := filter_snoc (fun a => !(o.any (overD a))) o i hlt'
   have hflm := filterMap_snoc (fun a => (o.find? (overD a)).map (ovOf a)) o i hlt'
   rw [← hp1] at hflt hflm
   refine vat ad had ?_
   try simp only [go_sem, ↓reduceIte, nQ1, nQ2, nQ3, nQ4, nQ5, nQ6, reduceCtorEq]
   refine vloadn p.ed.cells rfl hcells ?_
   simp only [go_sem, ↓reduceIte, nQ1, nQ2, nQ3, nQ4, nQ5, nQ6, reduceCtorEq, Ed.cells, Pl.ed, De.ed, e22, e21, e20, e5, e7, e8]
   refine vlend ?_
   intro β κ R3 hL
   have hbox := hL.2 2 _ rfl
   have hLle := hL.1
   refine ⟨_, eIndexFunc 58 [.pointer (some ⟨β 2, 0, none⟩)] hbOver (overD p.1) o _ R3 ((hu'.mono hle2).mono hLle) ?_, ?_⟩
   ·intro d cs R4 hle4 hd
    have := eOverF p.ed d cs ⟨β 2, 0, none⟩ R4 (fun j u hj => by rw [Addr.add_lit, Nat.zero_add]; exact hle4 _ _ (hbox j u hj)) hd
    exact this
   rintro R4 v R5 hle4 rfl hle5 _
   simp only [go_sem, ↓reduceIte, nQ1, nQ2, nQ3, nQ4, nQ5, nQ6, reduceCtorEq, e22, e21, e20, e5, e7, e8]
   have hpo5 : ∀ q ∈ ps, PlOK R5 q := fun q hq => (hpo q hq).mono hle5
   refine ⟨fun hn => ?_, fun hn => ?_⟩
   ·have hany : o.any (overD p.1) = false := by
     cases hf : o.find? (overD p.1) with
     | none => rw [List.any_eq_false]; exact fun x hx => List.find?_eq_none.1 hf x hx
     | some b => obtain ⟨j, hj, _⟩ := idxE_pos (i := 0) hf; omega
    have hfind : o.find? (overD p.1) = none := List.find?_eq_none.2 (List.any_eq_false.1 hany)
    rw [hany, if_pos (by rfl)] at hflt
    rw [hfind] at hflm
    refine vgrow (rowP ps) (fun h0 => by rw [gb_ne h0]; rfl) (fun h0 => by rw [h0, gb_nil]; rfl) (by rw [rowP_len]) (by omega) (by omega) (by omega) ?_
    simp only [go_sem, ↓reduceIte, nQ1, nQ2, nQ3, nQ4, nQ5, nQ6, reduceCtorEq, e22, e21, e20, e5, e7, e8]
    refine ⟨_, W.in64 (by omega), (i + 1, ps ++ [p], os), [4, 1], ?_⟩
    try simp only [go_sem, ↓reduceIte, nQ1, nQ2, nQ3, nQ4, nQ5, nQ6, reduceCtorEq]
    refine ⟨by omega, ⟨rfl, fun _ => by rw [rowP_snoc]; rfl, fun h => gb_ne h⟩, by decide, by omega, by rw [hflt, ← hps]; simp, by rw [hflm, hos]; simp, by omega, by omega, fun q hq => ?_⟩
    rcases List.mem_append.1 hq with hq | hq
    ·exact hpo5 q hq
    ·simp only [List.mem_cons, List.not_mem_nil, or_false] at hq; subst hq; exact hpok.mono (RO.le_trans hle2 hle5)
   ·have hany : o.any (overD p.1) = true := by
     cases ha : o.any (overD p.1) with
     | true => rfl
     | false => rw [idxE_neg ha] at hn; omega
    obtain ⟨b, hb⟩ : ∃ b, o.find? (overD p.1) = some b := by
     cases hf : o.find? (overD p.1) with
     | none => rw [List.find?_eq_none] at hf; rw [List.any_eq_true] at hany; obtain ⟨x, hx, hx'⟩ := hany; exact absurd hx' (hf x hx)
     | some b => exact ⟨b, rfl⟩
    rw [hany, if_neg (by simp)] at hflt
    rw [hb] at hflm
    obtain ⟨j, hj, hbj⟩ := idxE_pos (i := 0) hb
    rw [Nat.zero_add] at hj
    obtain ⟨hjl, hbe⟩ := List.getElem?_eq_some_iff.1 hbj
    obtain ⟨adb, q, hadb, hq1, hRq, _⟩ := hf j hjl
    rw [hbe] at hq1
    have hcq : ∀ k u, (q.ed.cells)[k]? = some u → R5 ((adb.add (j * 13)).add k) u := fun k u hk => hle5 _ _ (hle2 _ _ (hRq k u hk))
    rw [hj]
    try simp only [go_sem, ↓reduceIte, nQ1, nQ2, nQ3, nQ4, nQ5, nQ6, reduceCtorEq]
    refine ⟨by omega, vat adb hadb ?_⟩
    try simp only [go_sem, ↓reduceIte, nQ1, nQ2, nQ3, nQ4, nQ5, nQ6, reduceCtorEq]
    refine vload _ (hcq 2 _ rfl) ?_
    simp only [go_sem, ↓reduceIte, nQ1, nQ2, nQ3, nQ4, nQ5, nQ6, reduceCtorEq, e22, e21, e20, e5, e7, e8]
    refine ⟨by omega, vat adb hadb ?_⟩
    try simp only [go_sem, ↓reduceIte, nQ1, nQ2, nQ3, nQ4, nQ5, nQ6, reduceCtorEq]
    refine vload _ (hcq 3 _ rfl) ?_
    simp only [go_sem, ↓reduceIte, nQ1, nQ2, nQ3, nQ4, nQ5, nQ6, reduceCtorEq, e22, e21, e20, e5, e7, e8]
    refine vgrow (rowO os) (fun h0 => by rw [gb_ne h0]; rfl) (fun h0 => by rw [h0, gb_nil]; rfl) (by rw [rowO_len]) (by omega) (by omega) (by omega) ?_
    simp only [go_sem, ↓reduceIte, nQ1, nQ2, nQ3, nQ4, nQ5, nQ6, reduceCtorEq, e22, e21, e20, e5, e7, e8]
    refine ⟨_, W.in64 (by omega), (i + 1, ps, os ++ [ovOf p.1 b]), [0, 4], ?_⟩
    try simp only [go_sem, ↓reduceIte, nQ1, nQ2, nQ3, nQ4, nQ5, nQ6, reduceCtorEq]
    refine ⟨by omega, ⟨rfl, fun h => gb_ne h, fun _ => by rw [rowO_snoc, ← hq1]; rfl⟩, by decide, by omega, by rw [hflt, ← hps]; simp, by rw [hflm, hos]; simp, by omega, by omega, hpo5⟩
  ·obtain rfl : i = o.length := by omega
   rw [List.take_length] at hps hos
   by_cases h1 : ps.length = 0
   ·rw [h1]
    obtain rfl : ps = [] := List.eq_nil_of_length_eq_zero h1
    by_cases h2 : os.length = 0
    ·rw [h2]
     try simp only [go_sem, ↓reduceIte, nQ1, nQ2, nQ3, nQ4, nQ5, nQ6, reduceCtorEq]
     obtain rfl : os = [] := List.eq_nil_of_length_eq_zero h2
     refine ⟨_, _, rfl, ?_, ?_⟩
     ·unfold forceD; rw [← hps]; exact EdsV.nil R2
     ·unfold recsD; rw [← hos]; exact EncV.nil _ _ R2
    ·rw [gs_pos h2]
     try simp only [go_sem, ↓reduceIte, nQ1, nQ2, nQ3, nQ4, nQ5, nQ6, reduceCtorEq]
     rw [gb_ne (fun e => h2 (by have := rowO_len os; rw [e] at this; simp at this; omega))]
     try simp only [go_sem, ↓reduceIte, nQ1, nQ2, nQ3, nQ4, nQ5, nQ6, reduceCtorEq]
     intro b cap' R3 hle3 hrow hcap hfr
     refine ⟨_, _, rfl, ?_, ?_⟩
     ·unfold forceD; rw [← hps]; exact EdsV.nil R3
     ·unfold recsD; rw [← hos]; exact RowIn.enc (fun _ => rfl) (by omega) hrow hcap (by omega)
   ·rw [gs_pos h1]
    try simp only [go_sem, ↓reduceIte, nQ1, nQ2, nQ3, nQ4, nQ5, nQ6, reduceCtorEq]
    rw [gb_ne (fun e => h1 (by have := rowP_len ps; rw [e] at this; simp at this; omega))]
    try simp only [go_sem, ↓reduceIte, nQ1, nQ2, nQ3, nQ4, nQ5, nQ6, reduceCtorEq]
    intro b cap' R3 hle3 hrow hcap hfr
    have hF : EdsV R3 (.slice (some ⟨b, 0, none⟩) ps.length cap') (forceD o) := by
     unfold forceD
     rw [← hps]
     exact EdsV.row hrow hcap (fun p hp => (hpo p hp).mono hle3) (by omega)
    by_cases h2 : os.length = 0
    ·rw [h2]
     try simp only [go_sem, ↓reduceIte, nQ1, nQ2, nQ3, nQ4, nQ5, nQ6, reduceCtorEq]
     obtain rfl : os = [] := List.eq_nil_of_length_eq_zero h2
     refine ⟨_, _, rfl, hF, ?_⟩
     unfold recsD; rw [← hos]; exact EncV.nil _ _ R3
    ·rw [gs_pos h2]
     try simp only [go_sem, ↓reduceIte, nQ1, nQ2, nQ3, nQ4, nQ5, nQ6, reduceCtorEq]
     rw [gb_ne (fun e => h2 (by have := rowO_len os; rw [e] at this; simp at this; omega))]
     try simp only [go_sem, ↓reduceIte, nQ1, nQ2, nQ3, nQ4, nQ5, nQ6, reduceCtorEq]
     intro b' cap'' R4 hle4 hrow' hcap2 hfr'
     refine ⟨_, _, rfl, hF.mono hle4, ?_⟩
     unfold recsD; rw [← hos]; exact RowIn.enc (fun _ => rfl) (by omega) hrow' hcap2 (by omega)
end Go.Proofs.YtcjdbfnnbejmeaaGreat
namespace Go.Proofs.YtcjdbfnnbejmeaaGreat
set_option linter.unusedSimpArgs false
set_option linter.unusedVariables false
open Go.Proofs.YtcjdbfnnbejmeaaGreat.Vc
def Se.zero : Se := ⟨.slice none 0 0, 0, 0, ⟨#[]⟩, 0, 0, .slice none 0 0⟩
def Se.on (s : Se) (rl : List Nd) : On := ⟨rl, s.minute, s.length, s.zone⟩
end Go.Proofs.YtcjdbfnnbejmeaaGreat
namespace Go.Proofs.YtcjdbfnnbejmeaaGreat
set_option linter.unusedSimpArgs false
set_option linter.unusedVariables false
open Go.Proofs.YtcjdbfnnbejmeaaGreat.Vc
def isRuleTo (day : Int) (d : De) : Bool := decide (d.kind = 3) && decide (d.day ≤ day)
theorem eRuleF (b : De) (cb : List Value) (ad : Addr) (day : Int) (R : RO) (ha : R ad (.int .i64 day)) (hb : EdV R cb b) : CallsR Tryz.prog 66 [.agg cb.toArray, .pointer (some ad)] R fun _ r => r = .bool (isRuleTo day b) := by
 obtain ⟨ra, rn, rc, rfl, _⟩ := hb.form
 simp only [Ed.cells, De.ed] at *
 refine callsT mix Tryz.func66 comp66 (by simp [Tryz.ntmps66]) ?_; simp only [go_sem, ↓reduceIte, nQ1, nQ2, nQ3, nQ4, nQ5, nQ6, reduceCtorEq, vc66, rs66]
 unfold isRuleTo
 refine ⟨fun h3 => ?_, fun h3 => ?_⟩
 ·refine vload _ ha ?_
  try simp only [go_sem, ↓reduceIte, nQ1, nQ2, nQ3, nQ4, nQ5, nQ6, reduceCtorEq]
  simp [h3]
 ·simp [h3]
theorem idxE_any (p : De → Bool) (l : List De) : decide (0 ≤ idxE p 0 l) = l.any p := by
 cases h : l.any p with
 | false => rw [idxE_neg h]; rfl
 | true =>
  cases hf : l.find? p with
  | none => rw [List.find?_eq_none] at hf; rw [List.any_eq_true] at h; obtain ⟨x, hx, hx'⟩ := h; exact absurd hx' (hf x hx)
  | some b => obtain ⟨j, hj, _⟩ := idxE_pos (i := 0) hf; rw [hj]; simp
theorem eContainsFunc (g : FuncId) (caps : List Value) (hb : hasBody Tryz.prog g = true) (p : De → Bool) (ds : List De) (v : Value) (R : RO) (h : EdsV R v ds)
  (hcl : ∀ d cs R', RO.le R R' → EdV R' cs d → CallsR Tryz.prog g (.agg cs.toArray :: caps) R' fun _ r => r = .bool (p d)) : CallsR Tryz.prog 65 [v, .func (.func g) #[] caps.toArray] R fun _ r => r = .bool (ds.any p) := by
 have hI := eIndexFunc g caps hb p ds v R h hcl
 obtain ⟨a, cap, rfl, hc, _⟩ := h.form
 refine callsT mix Tryz.func65 comp65 (by simp [Tryz.ntmps65]) ?_; simp only [go_sem, ↓reduceIte, nQ1, nQ2, nQ3, nQ4, nQ5, nQ6, reduceCtorEq, vc65, rs65]
 refine vcall hI ?_
 rintro R1 w hle rfl
 try simp only [go_sem, ↓reduceIte, nQ1, nQ2, nQ3, nQ4, nQ5, nQ6, reduceCtorEq]
 rw [← idxE_any]
theorem hbRuleF : hasBody Tryz.prog 66 = true := by kernel_rfl
theorem eRulesF (ds : List De) (v : Value) (ad : Addr) (day : Int) (R : RO) (ha : R (ad.add 7) v) (h : EdsV R v ds) : CallsR Tryz.prog 64 [.int .i64 day, .pointer (some ad)] R fun _ r => r = .bool (ds.any (isRuleTo day)) := by
 have h' := h
 obtain ⟨a, cap, rfl, hc, _⟩ := h.form
 refine callsT mix Tryz.func64 comp64 (by simp [Tryz.ntmps64]) ?_; simp only [go_sem, ↓reduceIte, nQ1, nQ2, nQ3, nQ4, nQ5, nQ6, reduceCtorEq, vc64, rs64]
 refine vload _ ha ?_
 try simp only [go_sem, ↓reduceIte, nQ1, nQ2, nQ3, nQ4, nQ5, nQ6, reduceCtorEq]
 refine vlend ?_
 intro β κ R3 hL
 have hbox := hL.2 0 _ rfl
 refine ⟨_, eContainsFunc 66 [.pointer (some ⟨β 0, 0, none⟩)] hbRuleF (isRuleTo day) ds _ R3 (h'.mono hL.1) ?_, ?_⟩
 ·intro d cs R4 hle4 hd
  exact eRuleF d cs ⟨β 0, 0, none⟩ day R4 (hle4 _ _ (hbox 0 _ rfl)) hd
 rintro R4 v R5 hle4 rfl hle5 _
 try simp only [go_sem, ↓reduceIte, nQ1, nQ2, nQ3, nQ4, nQ5, nQ6, reduceCtorEq]
def isMove (d : De) : Bool := decide (d.kind = 1)
def isMoveOn (day : Int) (d : De) : Bool := decide (d.kind = 1) && decide (d.day = day)
def movesD (ms : List Mv) (ds : List De) (e : Int) : List Mv :=
 (ds.filter isMove).map (·.mv) ++ ms.filter fun m => decide (m.day < e) && (!(ds.any (isMoveOn m.day)) && !(ds.any (isRuleTo m.day)))
theorem hbRulesF : hasBody Tryz.prog 64 = true := by kernel_rfl
def edMap (ds : List De) : Int → Option Value := fun k => if ds.any (isMoveOn k) = true then some (.bool true) else none
theorem eMoves (s : Se) (ms : List Mv) (ds : List De) (v : Value) (e : Int) (R : RO) (hr : s.rule.oneCell' = true) (hm : EncV Mv.cells 5 R s.moves ms) (h : EdsV R v ds) (hsz : ms.length + ds.length ≤ 1000000000) : CallsR Tryz.prog 50 [.agg (s.cells ++ [v, .int .i64 e]).toArray] R fun R' u =>
  ∃ ys : List Mv, EncV Mv.cells 5 R' u ys ∧ ys.Perm (movesD ms ds e) ∧ ys.Pairwise fun x y => x.day ≤ y.day := by
 have hdl : ds.length ≤ 1000000000 := by obtain ⟨_, _, _, _, h⟩ := h; exact h
 have hml := hm.2
 have h0 := h
 obtain ⟨a, cap, rfl, hc, hf⟩ := h.form
 obtain ⟨sr, sm, sl, sz, sg, sf, smv⟩ := s
 dsimp only at hr hm
 obtain ⟨ma, mcap, rfl, hmc, hmf⟩ := hm.form
 simp only [Se.cells, List.cons_append, List.nil_append]
 refine callsT mix Tryz.func50 comp50 (by simp [Tryz.ntmps50]) ?_; simp only [go_sem, ↓reduceIte, nQ1, nQ2, nQ3, nQ4, nQ5, nQ6, reduceCtorEq, vc50, rs50]
 refine vcLoopR (Nat × List MapEntry × Nat × List Mv) (fun x => [(15, .val (.int .i64 x.1)), (14, .val (.int .i64 ds.length)), (13, .val (.slice a ds.length cap)), (1, .loc 0 0), (3, .fn 64 [.l 0 0]), (4, .mp 1), (5, gs 2 x.2.2.2.length)])
  (fun x => [.box [.val sr, .val (.int .i64 sm), .val (.int .i64 sl), .val (.string sz), .val (.int .i64 sg), .val (.int .i64 sf), .val (.slice ma ms.length mcap), .val (.slice a ds.length cap), .val (.int .i64 e)], .mp x.2.1 x.2.2.1, gb 27 5 (rowM x.2.2.2)])
  (fun x R => x.1 ≤ ds.length ∧ MapOf (Value.int .i64) x.2.1 (edMap (ds.take x.1)) ∧ x.2.2.2 = ((ds.take x.1).filter isMove).map (·.mv) ∧ x.2.2.2.length ≤ x.1) (fun x => ds.length - x.1) (0, [], 0, []) [] ?_ ?_ ?_ ?_
 ·(try simp only [go_sem, ↓reduceIte, nQ1, nQ2, nQ3, nQ4, nQ5, nQ6, reduceCtorEq]) <;> (repeat' (first | rfl | trivial | constructor | (intro h; exact absurd rfl h)))
 ·try simp only [go_sem, ↓reduceIte, nQ1, nQ2, nQ3, nQ4, nQ5, nQ6, reduceCtorEq]
  rfl
 ·exact ⟨Nat.zero_le _, MapOf.nil _, rfl, Nat.le_refl _⟩
 ·rintro ⟨i, es, clock, os⟩ env R1 hle1 hE ⟨hi, hmap, hos, hol⟩
  (simp only [go_sem] at hE; obtain ⟨e15, e14, e13, e1, e3, e4, e5⟩ := hE; simp only [go_sem, ↓reduceIte, nQ1, nQ2, nQ3, nQ4, nQ5, nQ6, reduceCtorEq, e15, e14, e13, e1, e3, e4, e5]; dsimp only at *)
  refine ⟨fun hlt => ⟨hlt, ?_⟩, fun hge => ?_⟩
  ·have hlt' : i < ds.length := by omega
   obtain ⟨ad, ra, rn, rc, had, hR, _⟩ := hf i hlt'
   obtain ⟨d, hd⟩ : ∃ d, d = ds[i] := ⟨_, rfl⟩
   rw [← hd] at hR
   refine vat ad had ?_
   try simp only [go_sem, ↓reduceIte, nQ1, nQ2, nQ3, nQ4, nQ5, nQ6, reduceCtorEq]
   refine vloadn (d.ed ra rn rc).cells rfl (fun j u hj => hle1 _ _ (hR j u hj)) ?_
   simp only [go_sem, ↓reduceIte, nQ1, nQ2, nQ3, nQ4, nQ5, nQ6, reduceCtorEq, Ed.cells, De.ed, e15, e14, e13, e1, e3, e4, e5]
   have hflt := filter_snoc isMove ds i hlt'
   have hany : ∀ k, (ds.take (i + 1)).any (isMoveOn k) = ((ds.take i).any (isMoveOn k) || isMoveOn k d) := fun k => by
    rw [List.take_succ_eq_append_getElem hlt', List.any_append, ← hd]; simp
   rw [← hd] at hflt
   refine ⟨fun hk => ?_, fun hk => ?_⟩
   ·obtain ⟨r, es', clock', g1, g2, g3⟩ := MapOf.put none (Value.int .i64) mEq_int hmap d.day (.bool true) clock
    refine ⟨by rw [mEq_int]; simp, vmput es clock r rfl g1 ?_⟩
    rw [g2]
    simp only [go_sem, ↓reduceIte, nQ1, nQ2, nQ3, nQ4, nQ5, nQ6, reduceCtorEq, e15, e14, e13, e1, e3, e4, e5]
    refine vgrow (rowM os) (fun h0 => by rw [gb_ne h0]; rfl) (fun h0 => by rw [h0, gb_nil]; rfl) (by rw [rowM_len]) (by omega) (by omega) (by omega) ?_
    simp only [go_sem, ↓reduceIte, nQ1, nQ2, nQ3, nQ4, nQ5, nQ6, reduceCtorEq, e15, e14, e13, e1, e3, e4, e5]
    refine ⟨_, W.in64 (by omega), (i + 1, es', clock', os ++ [d.mv]), [0, 1, 5], ?_⟩
    try simp only [go_sem, ↓reduceIte, nQ1, nQ2, nQ3, nQ4, nQ5, nQ6, reduceCtorEq]
    refine ⟨by omega, ⟨⟨rfl, rfl⟩, fun _ => by rw [rowM_snoc]; rfl⟩, ⟨rfl, by decide⟩, by omega, ?_, by rw [hflt, if_pos (by simp [isMove, hk]), List.map_append, ← hos]; rfl, by omega⟩
    have : edMap (ds.take (i + 1)) = fun k' => if k' = d.day then some (.bool true) else edMap (ds.take i) k' := by
     funext k
     unfold edMap
     rw [hany]
     by_cases hkd : k = d.day
     ·subst hkd; simp [isMoveOn, hk]
     ·have : isMoveOn k d = false := by simp [isMoveOn, Ne.symm hkd]
      rw [this, Bool.or_false, if_neg hkd]
    rw [this]
    exact g3
   ·refine ⟨_, W.in64 (by omega), (i + 1, es, clock, os), [], ?_⟩
    try simp only [go_sem, ↓reduceIte, nQ1, nQ2, nQ3, nQ4, nQ5, nQ6, reduceCtorEq]
    refine ⟨by omega, ⟨rfl, fun h => gb_ne h⟩, ⟨rfl, by decide⟩, by omega, ?_, by rw [hflt, if_neg (by simp [isMove, hk]), List.append_nil, ← hos], by omega⟩
    have : edMap (ds.take (i + 1)) = edMap (ds.take i) := by
     funext k
     unfold edMap
     rw [hany]
     have : isMoveOn k d = false := by simp [isMoveOn, hk]
     rw [this, Bool.or_false]
    rw [this]
    exact hmap
  ·obtain rfl : i = ds.length := by omega
   rw [List.take_length] at hmap hos
   refine vcLoopR (Nat × List Mv) (fun x => [(35, .val (.int .i64 x.1)), (34, .val (.int .i64 ms.length)), (33, .val (.slice ma ms.length mcap)), (1, .loc 0 0), (3, .fn 64 [.l 0 0]), (4, .mp 1), (5, gs 2 x.2.length)])
    (fun x => [.box [.val sr, .val (.int .i64 sm), .val (.int .i64 sl), .val (.string sz), .val (.int .i64 sg), .val (.int .i64 sf), .val (.slice ma ms.length mcap), .val (.slice a ds.length cap), .val (.int .i64 e)], .mp es clock, gb 27 5 (rowM x.2)])
    (fun x R => x.1 ≤ ms.length ∧ x.2 = os ++ (ms.take x.1).filter (fun m => decide (m.day < e) && (!(ds.any (isMoveOn m.day)) && !(ds.any (isRuleTo m.day)))) ∧ x.2.length ≤ os.length + x.1) (fun x => ms.length - x.1) (0, os) [] ?_ ?_ ?_ ?_
   ·(try simp only [go_sem, ↓reduceIte, nQ1, nQ2, nQ3, nQ4, nQ5, nQ6, reduceCtorEq]) <;> (repeat' (first | rfl | trivial | constructor | (intro h; exact absurd rfl h)))
    exact fun h => gb_ne h
   ·try simp only [go_sem, ↓reduceIte, nQ1, nQ2, nQ3, nQ4, nQ5, nQ6, reduceCtorEq]
    rfl
   ·exact ⟨Nat.zero_le _, by simp, Nat.le_refl _⟩
   ·rintro ⟨i, qs⟩ env R2 hle2 hE ⟨hi2, hqs, hql⟩
    (simp only [go_sem] at hE; obtain ⟨e35, e34, e33, e1, e3, e4, e5⟩ := hE; simp only [go_sem, ↓reduceIte, nQ1, nQ2, nQ3, nQ4, nQ5, nQ6, reduceCtorEq, e35, e34, e33, e1, e3, e4, e5]; dsimp only at *)
    refine ⟨fun hlt => ⟨hlt, ?_⟩, fun hge => ?_⟩
    ·have hlt' : i < ms.length := by omega
     obtain ⟨ad, had, hR⟩ := hmf i hlt'
     obtain ⟨m, hm⟩ : ∃ m, m = ms[i] := ⟨_, rfl⟩
     rw [← hm] at hR
     have hflt := filter_snoc (fun m => decide (m.day < e) && (!(ds.any (isMoveOn m.day)) && !(ds.any (isRuleTo m.day)))) ms i hlt'
     rw [← hm] at hflt
     refine vat ad had ?_
     try simp only [go_sem, ↓reduceIte, nQ1, nQ2, nQ3, nQ4, nQ5, nQ6, reduceCtorEq]
     refine vloadn m.cells rfl (fun j u hj => hle2 _ _ (hle1 _ _ (hR j u hj))) ?_
     simp only [go_sem, ↓reduceIte, nQ1, nQ2, nQ3, nQ4, nQ5, nQ6, reduceCtorEq, Mv.cells, e35, e34, e33, e1, e3, e4, e5]
     refine ⟨fun hlt2 => ?_, fun hge2 => ?_⟩
     ·obtain ⟨r, g1, g2⟩ := MapOf.get none (Value.int .i64) mEq_int hmap m.day
      have hr : mres (.bool false) false r = .bool (ds.any (isMoveOn m.day)) := by
       unfold edMap at g2
       cases hq : ds.any (isMoveOn m.day) with
       | true =>
        rw [hq, if_pos rfl] at g2
        obtain ⟨⟨j, v⟩, rfl, rfl⟩ := Option.map_eq_some_iff.1 g2
        rfl
       | false =>
        rw [hq, if_neg (by simp)] at g2
        rw [Option.map_eq_none_iff] at g2
        subst g2
        rfl
      refine vmget es clock r (by rw [mEq_int]; simp) rfl g1 ?_
      rw [hr]
      simp only [go_sem, ↓reduceIte, nQ1, nQ2, nQ3, nQ4, nQ5, nQ6, reduceCtorEq, e35, e34, e33, e1, e3, e4, e5]
      refine ⟨fun hq => ?_, fun hq => ?_⟩
      ·refine ⟨hbRulesF, vlendT ?_⟩
       intro β κ R3 hL
       have hbox := hL.2 0 _ rfl
       refine ⟨_, eRulesF ds _ ⟨β 0, 0, none⟩ m.day R3 (by rw [Addr.add_lit, Nat.zero_add]; exact hbox 7 _ rfl) (h0.mono (RO.le_trans hle1 (RO.le_trans hle2 hL.1))), ?_⟩
       rintro R4 v R5 hle4 rfl hle5 _
       simp only [go_sem, ↓reduceIte, nQ1, nQ2, nQ3, nQ4, nQ5, nQ6, reduceCtorEq, e35, e34, e33, e1, e3, e4, e5]
       refine ⟨fun hq2 => ?_, fun hq2 => ?_⟩
       ·refine vgrow (rowM qs) (fun h0 => by rw [gb_ne h0]; rfl) (fun h0 => by rw [h0, gb_nil]; rfl) (by rw [rowM_len]) (by omega) (by omega) (by omega) ?_
        simp only [go_sem, ↓reduceIte, nQ1, nQ2, nQ3, nQ4, nQ5, nQ6, reduceCtorEq, e35, e34, e33, e1, e3, e4, e5]
        refine ⟨_, W.in64 (by omega), (i + 1, qs ++ [m]), [0, 1, 5], ?_⟩
        try simp only [go_sem, ↓reduceIte, nQ1, nQ2, nQ3, nQ4, nQ5, nQ6, reduceCtorEq]
        refine ⟨by omega, ⟨⟨rfl, rfl⟩, fun _ => by rw [rowM_snoc]; rfl⟩, ⟨rfl, by decide⟩, by omega, by rw [hflt, if_pos (by simp [hlt2, hq, hq2]), hqs, List.append_assoc], by omega⟩
       ·refine ⟨_, W.in64 (by omega), (i + 1, qs), [], ?_⟩
        try simp only [go_sem, ↓reduceIte, nQ1, nQ2, nQ3, nQ4, nQ5, nQ6, reduceCtorEq]
        exact ⟨by omega, ⟨rfl, fun h => gb_ne h⟩, ⟨rfl, by decide⟩, by omega, by rw [hflt, if_neg (by simp [hlt2, hq, hq2]), List.append_nil, hqs], by omega⟩
      ·refine ⟨_, W.in64 (by omega), (i + 1, qs), [], ?_⟩
       try simp only [go_sem, ↓reduceIte, nQ1, nQ2, nQ3, nQ4, nQ5, nQ6, reduceCtorEq]
       exact ⟨by omega, ⟨rfl, fun h => gb_ne h⟩, ⟨rfl, by decide⟩, by omega, by rw [hflt, if_neg (by simp [hlt2, hq]), List.append_nil, hqs], by omega⟩
     ·refine ⟨_, W.in64 (by omega), (i + 1, qs), [], ?_⟩
      try simp only [go_sem, ↓reduceIte, nQ1, nQ2, nQ3, nQ4, nQ5, nQ6, reduceCtorEq]
      exact ⟨by omega, ⟨rfl, fun h => gb_ne h⟩, ⟨rfl, by decide⟩, by omega, by rw [hflt, if_neg (by simp [hge2]), List.append_nil, hqs], by omega⟩
    ·obtain rfl : i = ms.length := by omega
     rw [List.take_length] at hqs
     have hqd : qs = movesD ms ds e := by rw [hqs, hos]; rfl
     by_cases h0 : qs.length = 0
     ·rw [h0]
      try simp only [go_sem, ↓reduceIte, nQ1, nQ2, nQ3, nQ4, nQ5, nQ6, reduceCtorEq]
      refine vcall (eSortMvNil _ R2) ?_
      rintro R3 v hle3 rfl
      simp only [go_sem, ↓reduceIte, nQ1, nQ2, nQ3, nQ4, nQ5, nQ6, reduceCtorEq, e35, e34, e33, e1, e3, e4, e5]
      rw [h0]
      try simp only [go_sem, ↓reduceIte, nQ1, nQ2, nQ3, nQ4, nQ5, nQ6, reduceCtorEq]
      obtain rfl : qs = [] := List.eq_nil_of_length_eq_zero h0
      exact ⟨[], EncV.nil _ _ _, by rw [← hqd], List.Pairwise.nil⟩
     ·rw [gs_pos h0]
      try simp only [go_sem, ↓reduceIte, nQ1, nQ2, nQ3, nQ4, nQ5, nQ6, reduceCtorEq]
      refine vhand [2] [.sl 0 qs.length, .val (.func (.func 68) #[] #[])] [.row 27 5 (rowM qs)] (eSortMv qs (by omega) R2) rfl rfl rfl ?_ (by simp) rfl rfl ?_
      ·try simp only [go_sem, ↓reduceIte, nQ1, nQ2, nQ3, nQ4, nQ5, nQ6, reduceCtorEq]
       exact gb_ne (fun e => h0 (by have := rowM_len qs; rw [e] at this; simp at this; omega))
      rintro R3 bs r hle3 ⟨rfl, rs, hperm, hpw, rfl, rfl⟩ _
      simp only [go_sem, ↓reduceIte, nQ1, nQ2, nQ3, nQ4, nQ5, nQ6, reduceCtorEq, e35, e34, e33, e1, e3, e4, e5]
      rw [gs_pos h0]
      simp only [go_sem, ↓reduceIte, nQ1, nQ2, nQ3, nQ4, nQ5, nQ6, reduceCtorEq, setG, rn]
      intro b cap' R4 hle4 hrow hcap hfr
      refine ⟨rs, ?_, by rw [← hqd]; exact hperm, hpw⟩
      rw [show qs.length = rs.length from hperm.length_eq.symm]
      exact RowIn.enc (fun _ => rfl) (by omega) hrow hcap (by rw [hperm.length_eq]; omega)
end Go.Proofs.YtcjdbfnnbejmeaaGreat
namespace Go.Proofs.YtcjdbfnnbejmeaaGreat
set_option linter.unusedSimpArgs false
set_option linter.unusedVariables false
open Go.Proofs.YtcjdbfnnbejmeaaGreat.Vc
def paCells (f : Int) (s : Se) : List Value := .int .i64 f :: s.cells
def Ti.zero : Ti := ⟨[], 0, 0, ⟨#[]⟩, 0, 0⟩
structure Pa where
 day : Int
 ti : Ti
 moves : List Mv
 deriving DecidableEq
abbrev Pp := Int × Ti × Value
def Pp.se (p : Pp) : Se := ⟨p.2.2, p.2.1.minute, p.2.1.length, p.2.1.zone, p.2.1.gap, p.2.1.fold, .slice none 0 0⟩
def Pp.cells (p : Pp) : List Value := paCells p.1 (Pp.se p)
def Pp.OK (R : RO) (p : Pp) : Prop := RuleV R p.2.2 p.2.1.rule
def rowPp (ps : List Pp) : List Value := (ps.map Pp.cells).flatten
theorem rowPp_len (ps : List Pp) : (rowPp ps).length = ps.length * 8 := by
 unfold rowPp
 rw [length_flattenK (k := 8) (fun us hus => by obtain ⟨x, _, rfl⟩ := List.mem_map.1 hus; rfl)]
 simp
theorem rowPp_snoc (ps : List Pp) (o : Pp) : rowPp (ps ++ [o]) = rowPp ps ++ o.cells := by simp [rowPp]
def tiOn (s : Se) (rl : List Nd) (ds : List De) (day : Int) : Ti := ⟨(onE day (s.on rl) ds).rule, (onE day (s.on rl) ds).minute, (onE day (s.on rl) ds).length, (onE day (s.on rl) ds).zone, s.gap, s.fold⟩
def sameTi (x y : Ti) : Bool := decide (y.minute = x.minute) && decide (y.length = x.length) && decide (x.rule = y.rule)
def partsGo (e : Int) (f : Int → Ti) : List Int → List (Int × Ti) → List (Int × Ti)
 | [], out => out
 | day :: r, out =>
  if e ≤ day then out ++ [(day, Ti.zero)]
  else match out.getLast? with
   | some y => if sameTi (f day) y.2 = true then partsGo e f r out else partsGo e f r (out ++ [(day, f day)])
   | none => partsGo e f r (out ++ [(day, f day)])
def partsD (s : Se) (rl : List Nd) (ds : List De) (e : Int) : List (Int × Ti) := partsGo e (tiOn s rl ds) (rising (0 :: ds.map (·.day))) []
theorem rowPp_last (ps : List Pp) (o : Pp) (j : Nat) : (rowPp (ps ++ [o]))[ps.length * 8 + j]? = o.cells[j]? := by
 rw [rowPp_snoc, List.getElem?_append_right (by rw [rowPp_len]; omega), rowPp_len]
 congr 1; omega
theorem compact_sorted (xs : List Int) : Lib.compact (xs.mergeSort fun x y => decide (x ≤ y)) = rising xs := by
 rw [← compact_rising]; simp [Lib.compact]
theorem partsGo_nil (e : Int) (f : Int → Ti) (out : List (Int × Ti)) : partsGo e f [] out = out := rfl
theorem partsGo_end {e : Int} {f : Int → Ti} {day : Int} {r : List Int} {out : List (Int × Ti)} (h : e ≤ day) : partsGo e f (day :: r) out = out ++ [(day, Ti.zero)] := by rw [partsGo, if_pos h]
theorem partsGo_first {e : Int} {f : Int → Ti} {day : Int} {r : List Int} (h : ¬ e ≤ day) : partsGo e f (day :: r) [] = partsGo e f r [(day, f day)] := by rw [partsGo, if_neg h]; rfl
theorem partsGo_same {e : Int} {f : Int → Ti} {day : Int} {r : List Int} {out : List (Int × Ti)} {y : Int × Ti} (h : ¬ e ≤ day) (k : sameTi (f day) y.2 = true) : partsGo e f (day :: r) (out ++ [y]) = partsGo e f r (out ++ [y]) := by rw [partsGo, if_neg h]; simp [k]
theorem partsGo_new {e : Int} {f : Int → Ti} {day : Int} {r : List Int} {out : List (Int × Ti)} {y : Int × Ti} (h : ¬ e ≤ day) (k : sameTi (f day) y.2 = false) : partsGo e f (day :: r) (out ++ [y]) = partsGo e f r (out ++ [y] ++ [(day, f day)]) := by rw [partsGo, if_neg h]; simp [k]
theorem eParts (s : Se) (rl : List Nd) (ds : List De) (v : Value) (e : Int) (R : RO) (hr : RuleV R s.rule rl) (hm : s.moves.oneCell' = true) (h : EdsV R v ds) (hsz : ds.length ≤ 100000000) : CallsS Tryz.prog 49 [.val (.agg (s.cells ++ [v, .int .i64 e]).toArray)] [] R fun R' bs r =>
  ∃ ps : List Pp, ps ≠ [] ∧ (∀ p ∈ ps, p.OK R') ∧ ps.map (fun p => (p.1, p.2.1)) = partsD s rl ds e ∧ ∃ j, r = .sl j ps.length ∧ bs[j]? = some (.row 55 8 (rowPp ps)) := by
 have hdl : ds.length ≤ 1000000000 := by omega
 have h0 := h
 have hron := hr.one
 obtain ⟨a, cap, rfl, hc, hf⟩ := h.form
 obtain ⟨sr, sm, sl, sz, sg, sf, smv⟩ := s
 dsimp only at hr hm hron
 simp only [Se.cells, List.cons_append, List.nil_append]
 refine callsTS mix Tryz.func49 comp49 (by simp [Tryz.ntmps49]) rfl rfl ?_; simp only [go_sem, ↓reduceIte, nQ1, nQ2, nQ3, nQ4, nQ5, nQ6, reduceCtorEq, vc49, rs49]
 refine vcLoopR Nat (fun i => [(16, .val (.int .i64 i)), (15, .val (.int .i64 ds.length)), (14, .val (.slice a ds.length cap)), (1, .loc 0 0), (3, .sl 1 (i + 1))])
  (fun i => [.box [.val sr, .val (.int .i64 sm), .val (.int .i64 sl), .val (.string sz), .val (.int .i64 sg), .val (.int .i64 sf), .val smv, .val (.slice a ds.length cap), .val (.int .i64 e)], .row 3 1 ((0 :: (ds.take i).map (·.day)).map (.int .i64))])
  (fun i R => i ≤ ds.length) (fun i => ds.length - i) 0 [] ?_ ?_ ?_ ?_
 ·(try simp only [go_sem, ↓reduceIte, nQ1, nQ2, nQ3, nQ4, nQ5, nQ6, reduceCtorEq]) <;> (repeat' (first | rfl | trivial | constructor | (intro h; exact absurd rfl h)))
 ·try simp only [go_sem, ↓reduceIte, nQ1, nQ2, nQ3, nQ4, nQ5, nQ6, reduceCtorEq]
 ·exact Nat.zero_le _
 ·rintro i env R1 hle1 hE hi
  (simp only [go_sem] at hE; obtain ⟨e16, e15, e14, e1, e3⟩ := hE; simp only [go_sem, ↓reduceIte, nQ1, nQ2, nQ3, nQ4, nQ5, nQ6, reduceCtorEq, e16, e15, e14, e1, e3]; dsimp only at *)
  refine ⟨fun hlt => ⟨hlt, ?_⟩, fun hge => ?_⟩
  ·have hlt' : i < ds.length := by omega
   obtain ⟨ad, ra, rn, rc, had, hR, _⟩ := hf i hlt'
   refine vat ad had ?_
   try simp only [go_sem, ↓reduceIte, nQ1, nQ2, nQ3, nQ4, nQ5, nQ6, reduceCtorEq]
   refine vloadn (ds[i].ed ra rn rc).cells rfl (fun j u hj => hle1 _ _ (hR j u hj)) ?_
   simp only [go_sem, ↓reduceIte, nQ1, nQ2, nQ3, nQ4, nQ5, nQ6, reduceCtorEq, Ed.cells, De.ed, e16, e15, e14, e1, e3]
   refine vappO _ rfl (by simp; omega) (by omega) ?_
   simp only [go_sem, ↓reduceIte, nQ1, nQ2, nQ3, nQ4, nQ5, nQ6, reduceCtorEq, e16, e15, e14, e1, e3]
   refine ⟨_, W.in64 (by omega), i + 1, [0, 4], ?_⟩
   try simp only [go_sem, ↓reduceIte, nQ1, nQ2, nQ3, nQ4, nQ5, nQ6, reduceCtorEq]
   refine ⟨by omega, ⟨rfl, ?_⟩, by decide, by omega⟩
   rw [List.take_succ_eq_append_getElem hlt', List.map_append, List.map_append]
   rfl
  ·obtain rfl : i = ds.length := by omega
   rw [List.take_length]
   have hlen : (0 :: ds.map (·.day)).length = ds.length + 1 := by simp
   have hSI := eSortInts (0 :: ds.map (·.day)) (by simp; omega) R1
   rw [hlen] at hSI
   refine vhand [1] [.sl 0 (ds.length + 1)] [.row 3 1 ((0 :: ds.map (·.day)).map (.int .i64))] hSI rfl rfl rfl ?_ (by simp) rfl rfl ?_
   ·try simp only [go_sem, ↓reduceIte, nQ1, nQ2, nQ3, nQ4, nQ5, nQ6, reduceCtorEq]
   rintro R2 bs r hle2 ⟨rfl, rfl, rfl⟩ _
   simp only [go_sem, ↓reduceIte, nQ1, nQ2, nQ3, nQ4, nQ5, nQ6, reduceCtorEq, setG, rn, e16, e15, e14, e1, e3]
   have hCI := eCompactInts ((0 :: ds.map (·.day)).mergeSort fun x y => decide (x ≤ y)) (by simp; omega) R2
   rw [List.length_mergeSort, hlen, compact_sorted] at hCI
   refine vhand [1] [.sl 0 (ds.length + 1)] [.row 3 1 (((0 :: ds.map (·.day)).mergeSort fun x y => decide (x ≤ y)).map (.int .i64))] hCI rfl rfl rfl ?_ (by simp) rfl rfl ?_
   ·try simp only [go_sem, ↓reduceIte, nQ1, nQ2, nQ3, nQ4, nQ5, nQ6, reduceCtorEq]
    rfl
   rintro R3 bs r hle3 ⟨rfl, rfl, rfl⟩ _
   simp only [go_sem, ↓reduceIte, nQ1, nQ2, nQ3, nQ4, nQ5, nQ6, reduceCtorEq, setG, rn, e16, e15, e14, e1, e3]
   obtain ⟨days, hdays⟩ : ∃ days, days = rising (0 :: ds.map (·.day)) := ⟨_, rfl⟩
   have hdl1 : days.length ≤ ds.length + 1 := by rw [hdays, ← hlen]; exact rising_len _
   have hd0 : days ≠ [] := by
    have : (0 : Int) ∈ days := by rw [hdays, mem_rising]; simp
    intro e; rw [e] at this; simp at this
   rw [← hdays]
   refine vcLoopR (Nat × List Pp) (fun x => [(31, .val (.int .i64 x.1)), (30, .val (.int .i64 days.length)), (29, .sl 1 days.length), (1, .loc 0 0), (6, gs 2 x.2.length)])
    (fun x => [.box [.val sr, .val (.int .i64 sm), .val (.int .i64 sl), .val (.string sz), .val (.int .i64 sg), .val (.int .i64 sf), .val smv, .val (.slice a ds.length cap), .val (.int .i64 e)], .row 3 1 ((days ++ List.replicate (ds.length + 1 - days.length) 0).map (.int .i64)), gb 55 8 (rowPp x.2)])
    (fun x R => x.1 ≤ days.length ∧ (0 < x.1 → x.2 ≠ []) ∧ x.2.length ≤ x.1 ∧ (∀ p ∈ x.2, p.OK R) ∧ partsGo e (tiOn ⟨.slice none 0 0, sm, sl, sz, sg, sf, .slice none 0 0⟩ rl ds) (days.drop x.1) (x.2.map fun p => (p.1, p.2.1)) = partsGo e (tiOn ⟨.slice none 0 0, sm, sl, sz, sg, sf, .slice none 0 0⟩ rl ds) days []) (fun x => days.length - x.1) (0, []) [] ?_ ?_ ?_ ?_
   ·(try simp only [go_sem, ↓reduceIte, nQ1, nQ2, nQ3, nQ4, nQ5, nQ6, reduceCtorEq]) <;> (repeat' (first | rfl | trivial | constructor | (intro h; exact absurd rfl h)))
   ·try simp only [go_sem, ↓reduceIte, nQ1, nQ2, nQ3, nQ4, nQ5, nQ6, reduceCtorEq]
   ·exact ⟨Nat.zero_le _, by simp, Nat.le_refl _, by simp, rfl⟩
   rintro ⟨i, ps⟩ env R4 hle4 hE ⟨hi, hne, hpl, hpo, hgo⟩
   (simp only [go_sem] at hE; obtain ⟨e31, e30, e29, e1', e6⟩ := hE; simp only [go_sem, ↓reduceIte, nQ1, nQ2, nQ3, nQ4, nQ5, nQ6, reduceCtorEq, e31, e30, e29, e1', e6]; dsimp only at *)
   refine ⟨fun hlt => ⟨hlt, ?_⟩, fun hge => ?_⟩
   ·have hlt' : i < days.length := by omega
    refine ⟨.int .i64 days[i], by rw [List.getElem?_map, List.getElem?_append_left hlt', List.getElem?_eq_getElem hlt']; rfl, ?_⟩
    have hdrop := List.drop_eq_getElem_cons hlt'
    rw [hdrop] at hgo
    simp only [go_sem, ↓reduceIte, nQ1, nQ2, nQ3, nQ4, nQ5, nQ6, reduceCtorEq, e31, e30, e29, e1', e6]
    refine ⟨fun hge2 => ?_, fun hlt2 => ?_⟩
    ·refine vgrow (rowPp ps) (fun h0 => by rw [gb_ne h0]; rfl) (fun h0 => by rw [h0, gb_nil]; rfl) (by rw [rowPp_len]) (by omega) (by omega) (by omega) ?_
     simp only [go_sem, ↓reduceIte, nQ1, nQ2, nQ3, nQ4, nQ5, nQ6, reduceCtorEq, e31, e30, e29, e1', e6]
     rw [partsGo_end hge2] at hgo
     refine ⟨ps ++ [(days[i], Ti.zero, .slice none 0 0)], by simp, fun p hp => ?_, ?_, 4, by simp, by rw [rowPp_snoc]; rfl⟩
     ·rcases List.mem_append.1 hp with hp | hp
      ·exact hpo p hp
      ·simp only [List.mem_cons, List.not_mem_nil, or_false] at hp; subst hp; exact RuleV.nil _
     ·rw [List.map_append]
      refine hgo.trans ?_
      rw [hdays]; rfl
    ·refine vcall (eOn ⟨sr, sm, sl, sz, sg, sf, smv⟩ rl ds _ e days[i] R4 (hr.mono (RO.le_trans hle1 (RO.le_trans hle2 (RO.le_trans hle3 hle4)))) (h0.mono (RO.le_trans hle1 (RO.le_trans hle2 (RO.le_trans hle3 hle4))))) ?_
     rintro R5 v hle5 ⟨rv, rfl, hrv⟩
     have hrv1 := hrv.one
     obtain ⟨ra, rn, rc, rfl⟩ := hrv.form
     simp only [go_sem, ↓reduceIte, nQ1, nQ2, nQ3, nQ4, nQ5, nQ6, reduceCtorEq, Se.cells, e31, e30, e29, e1', e6]
     have hpo5 : ∀ p ∈ ps, p.OK R5 := fun p hp => (hpo p hp).mono hle5
     obtain ⟨ti, hti⟩ : ∃ ti, ti = tiOn ⟨.slice none 0 0, sm, sl, sz, sg, sf, .slice none 0 0⟩ rl ds days[i] := ⟨_, rfl⟩
     have happ : ∀ R6 : RO, RO.le R5 R6 → ∀ {k : SV → St → Prop} {t : Tok k} {e : Nat → SV} {b : List Blk}, b[2]? = some (gb 55 8 (rowPp ps)) → k (.sl b.length (ps.length + 1)) ⟨e, b.set 2 .dead ++ [.row 55 8 (rowPp (ps ++ [(days[i], ti, .slice ra rn rc)]))], R6⟩ →
       AppT 55 8 104 (gs 2 ps.length) 1 (Pp.cells (days[i], ti, .slice ra rn rc)) ⟨e, b, R6⟩ k t := by
      intro R6 hle6 k t e b hb hk
      refine vgrow (rowPp ps) (fun h0 => by rw [hb]) (fun h0 => set_dead_gb (by rw [hb, h0, gb_nil])) (by rw [rowPp_len]) (by omega) (by omega) (by omega) ?_
      rw [← rowPp_snoc]
      exact hk
     rcases List.eq_nil_or_concat ps with hps | ⟨qs, y, hps⟩
     ·subst hps
      refine ⟨fun h => by simp at h, fun _ => ?_⟩
      rw [List.map_nil, partsGo_first (by omega), ← hti] at hgo
      have hcl : Pp.cells (days[i], ti, .slice ra rn rc) = [.int .i64 days[i], .slice ra rn rc, .int .i64 (onE days[i] ⟨rl, sm, sl, sz⟩ ds).minute, .int .i64 (onE days[i] ⟨rl, sm, sl, sz⟩ ds).length, .string (onE days[i] ⟨rl, sm, sl, sz⟩ ds).zone, .int .i64 sg, .int .i64 sf, .slice none 0 0] := by rw [hti]; rfl
      rw [← hcl]
      refine happ R5 (RO.le_refl _) rfl ?_
      simp only [go_sem, ↓reduceIte, nQ1, nQ2, nQ3, nQ4, nQ5, nQ6, reduceCtorEq, e31, e30, e29, e1', e6]
      refine ⟨_, W.in64 (by omega), (i + 1, [(days[i], ti, .slice ra rn rc)]), [0, 1, 5], ?_⟩
      try simp only [go_sem, ↓reduceIte, nQ1, nQ2, nQ3, nQ4, nQ5, nQ6, reduceCtorEq]
      exact ⟨by omega, rfl, by decide, by omega, by rw [hti]; exact hrv, hgo⟩
     ·rw [List.concat_eq_append] at hps
      have hpl2 : ps.length = qs.length + 1 := by rw [hps]; simp
      refine ⟨fun _ => ⟨_, W.in64 (by omega), ?_⟩, fun h => by omega⟩
      obtain ⟨yd, yt, yv⟩ := y
      have hyo : RuleV R5 yv yt.rule := hpo5 (yd, yt, yv) (by rw [hps]; simp)
      obtain ⟨ya, yn, yc, rfl⟩ := hyo.form
      have hgb : gb 55 8 (rowPp ps) = .row 55 8 (rowPp ps) := gb_ne (fun e => by have := rowPp_len ps; rw [e] at this; simp at this; omega)
      have hcell : ∀ j, (rowPp ps)[qs.length * 8 + j]? = (Pp.cells (yd, yt, .slice ya yn yc))[j]? := fun j => by rw [hps]; exact rowPp_last qs _ j
      have hidx : ((ps.length : Int) - 1).toNat = qs.length := by omega
      rw [gs_pos (by omega), hgb]
      try simp only [go_sem, ↓reduceIte, nQ1, nQ2, nQ3, nQ4, nQ5, nQ6, reduceCtorEq]
      rw [hidx]
      refine ⟨by omega, by omega, ?_⟩
      try simp only [go_sem, ↓reduceIte, nQ1, nQ2, nQ3, nQ4, nQ5, nQ6, reduceCtorEq]
      refine ⟨_, (hcell 1).trans rfl, _, (hcell 2).trans rfl, _, (hcell 3).trans rfl, _, (hcell 4).trans rfl, _, (hcell 5).trans rfl, _, (hcell 6).trans rfl, _, (hcell 7).trans rfl, ?_⟩
      simp only [go_sem, ↓reduceIte, nQ1, nQ2, nQ3, nQ4, nQ5, nQ6, reduceCtorEq, Pp.se, e31, e30, e29, e1', e6]
      rw [hps, List.map_append] at hgo
      have hcl : Pp.cells (days[i], ti, .slice ra rn rc) = [.int .i64 days[i], .slice ra rn rc, .int .i64 (onE days[i] ⟨rl, sm, sl, sz⟩ ds).minute, .int .i64 (onE days[i] ⟨rl, sm, sl, sz⟩ ds).length, .string (onE days[i] ⟨rl, sm, sl, sz⟩ ds).zone, .int .i64 sg, .int .i64 sf, .slice none 0 0] := by rw [hti]; rfl
      have hst : sameTi ti yt = (decide (yt.minute = (onE days[i] ⟨rl, sm, sl, sz⟩ ds).minute) && decide (yt.length = (onE days[i] ⟨rl, sm, sl, sz⟩ ds).length) && decide ((onE days[i] ⟨rl, sm, sl, sz⟩ ds).rule = yt.rule)) := by rw [hti]; rfl
      have hold : sameTi ti yt = true → partsGo e (tiOn ⟨.slice none 0 0, sm, sl, sz, sg, sf, .slice none 0 0⟩ rl ds) (days.drop (i + 1)) (ps.map fun p => (p.1, p.2.1)) = partsGo e (tiOn ⟨.slice none 0 0, sm, sl, sz, sg, sf, .slice none 0 0⟩ rl ds) days [] := fun hs => by
       rw [← hgo, hps, List.map_append]
       exact (partsGo_same (by omega) (by rw [← hti]; exact hs)).symm
      have hnew : sameTi ti yt = false → partsGo e (tiOn ⟨.slice none 0 0, sm, sl, sz, sg, sf, .slice none 0 0⟩ rl ds) (days.drop (i + 1)) ((ps ++ [(days[i], ti, Value.slice ra rn rc)]).map fun p => (p.1, p.2.1)) = partsGo e (tiOn ⟨.slice none 0 0, sm, sl, sz, sg, sf, .slice none 0 0⟩ rl ds) days [] := fun hs => by
       rw [← hgo, List.map_append, hps, List.map_append, hti]
       exact (partsGo_new (by omega) (by rw [← hti]; exact hs)).symm
      clear hgo
      have hpo6 : ∀ R6 : RO, RO.le R5 R6 → ∀ p ∈ ps ++ [(days[i], ti, Value.slice ra rn rc)], Pp.OK R6 p := fun R6 hle6 p hp => by
       rcases List.mem_append.1 hp with hp | hp
       ·exact (hpo5 p hp).mono hle6
       ·simp only [List.mem_cons, List.not_mem_nil, or_false] at hp; subst hp; rw [hti]; exact hrv.mono hle6
      refine ⟨fun q1 => ⟨fun q2 => ?_, fun q2 => ?_⟩, fun q1 => ?_⟩
      ·refine vcall (eSameRule _ yt.rule _ _ R5 hrv hyo) ?_
       rintro R6 v hle6 rfl
       simp only [go_sem, ↓reduceIte, nQ1, nQ2, nQ3, nQ4, nQ5, nQ6, reduceCtorEq, e31, e30, e29, e1', e6]
       refine ⟨fun q3 => ?_, fun q3 => ?_⟩
       ·refine ⟨_, W.in64 (by omega), (i + 1, ps), [], ?_⟩
        try simp only [go_sem, ↓reduceIte, nQ1, nQ2, nQ3, nQ4, nQ5, nQ6, reduceCtorEq]
        exact ⟨by omega, rfl, by decide, by omega, fun _ => by rw [hps]; simp, by omega, fun p hp => (hpo5 p hp).mono hle6, hold (by rw [hst]; simp [q1, q2, q3])⟩
       ·rw [← hcl, ← gs_pos (show ps.length ≠ 0 by omega), ← hgb]
        refine happ R6 hle6 rfl ?_
        simp only [go_sem, ↓reduceIte, nQ1, nQ2, nQ3, nQ4, nQ5, nQ6, reduceCtorEq, e31, e30, e29, e1', e6]
        refine ⟨_, W.in64 (by omega), (i + 1, ps ++ [(days[i], ti, .slice ra rn rc)]), [0, 1, 6], ?_⟩
        try simp only [go_sem, ↓reduceIte, nQ1, nQ2, nQ3, nQ4, nQ5, nQ6, reduceCtorEq]
        exact ⟨by omega, rfl, by decide, by omega, fun _ => by simp, by omega, hpo6 R6 hle6, hnew (by rw [hst]; simp [q1, q2, q3])⟩
      ·rw [← hcl, ← gs_pos (show ps.length ≠ 0 by omega), ← hgb]
       refine happ R5 (RO.le_refl _) rfl ?_
       simp only [go_sem, ↓reduceIte, nQ1, nQ2, nQ3, nQ4, nQ5, nQ6, reduceCtorEq, e31, e30, e29, e1', e6]
       refine ⟨_, W.in64 (by omega), (i + 1, ps ++ [(days[i], ti, .slice ra rn rc)]), [0, 1, 6], ?_⟩
       try simp only [go_sem, ↓reduceIte, nQ1, nQ2, nQ3, nQ4, nQ5, nQ6, reduceCtorEq]
       exact ⟨by omega, rfl, by decide, by omega, fun _ => by simp, by omega, hpo6 R5 (RO.le_refl _), hnew (by rw [hst]; simp [q1, q2])⟩
      ·rw [← hcl, ← gs_pos (show ps.length ≠ 0 by omega), ← hgb]
       refine happ R5 (RO.le_refl _) rfl ?_
       simp only [go_sem, ↓reduceIte, nQ1, nQ2, nQ3, nQ4, nQ5, nQ6, reduceCtorEq, e31, e30, e29, e1', e6]
       refine ⟨_, W.in64 (by omega), (i + 1, ps ++ [(days[i], ti, .slice ra rn rc)]), [0, 1, 6], ?_⟩
       try simp only [go_sem, ↓reduceIte, nQ1, nQ2, nQ3, nQ4, nQ5, nQ6, reduceCtorEq]
       exact ⟨by omega, rfl, by decide, by omega, fun _ => by simp, by omega, hpo6 R5 (RO.le_refl _), hnew (by rw [hst]; simp [q1])⟩
   ·obtain rfl : i = days.length := by omega
    rw [List.drop_length, partsGo_nil] at hgo
    have h1 : ps ≠ [] := hne (List.length_pos_iff.2 hd0)
    have h2 : ps.length ≠ 0 := fun h => h1 (List.eq_nil_of_length_eq_zero h)
    refine ⟨ps, h1, hpo, ?_, 2, gs_pos h2, ?_⟩
    ·rw [hgo, hdays]; rfl
    ·rw [gb_ne (fun e => h2 (by have := rowPp_len ps; rw [e] at this; simp at this; omega))]; rfl
end Go.Proofs.YtcjdbfnnbejmeaaGreat
namespace Go.Proofs.YtcjdbfnnbejmeaaGreat
set_option linter.unusedSimpArgs false
set_option linter.unusedVariables false
open Go.Proofs.YtcjdbfnnbejmeaaGreat.Vc
def movesOK : Option Int → List Mv → Bool
 | _, [] => true
 | p, m :: r => moveOK m && ((match p with | none => true | some d => decide (d < m.day)) && movesOK (some m.day) r)
def sortM (l : List Mv) : List Mv := l.mergeSort fun a b => decide (a.day ≤ b.day)
def partAt (days : List Int) (day : Int) : Nat := (days.filter fun f => decide (f ≤ day)).length - 1
def placeD (ps : List (Int × Ti)) (ys : List Mv) : List Pa := ps.mapIdx fun i p => ⟨p.1, p.2, ys.filter fun m => decide (partAt (ps.map (·.1)) m.day = i)⟩
def mergeP (s : Se) (rl : List Nd) (ms : List Mv) (o : List De) : List Pa :=
 placeD (partsD s rl (forceD o) (endE (forceD o))) (sortM (movesD ms (forceD o) (endE (forceD o))))
def PartV (R : RO) (c : List Value) (p : Pa) : Prop := ∃ rv mv, c = paCells p.day ⟨rv, p.ti.minute, p.ti.length, p.ti.zone, p.ti.gap, p.ti.fold, mv⟩ ∧ RuleV R rv p.ti.rule ∧ EncV Mv.cells 5 R mv p.moves
theorem PartV.mono {R R' : RO} {c : List Value} {p : Pa} (h : PartV R c p) (hle : RO.le R R') : PartV R' c p := by
 obtain ⟨rv, mv, e, h1, h2⟩ := h
 exact ⟨rv, mv, e, h1.mono hle, h2.mono hle⟩
def PartsV (R : RO) (v : Value) (ps : List Pa) : Prop := ∃ cs : List (List Value), SlK R v 8 cs ∧ cs.length = ps.length ∧ (∀ (i : Nat) (c : List Value) (p : Pa), cs[i]? = some c → ps[i]? = some p → PartV R c p) ∧ ps.length ≤ 1000000000
theorem PartsV.mono {R R' : RO} {v : Value} {ps : List Pa} (h : PartsV R v ps) (hle : RO.le R R') : PartsV R' v ps := by
 obtain ⟨cs, h1, h2, h3, h4⟩ := h
 exact ⟨cs, h1.mono hle, h2, fun i c p hi hp => (h3 i c p hi hp).mono hle, h4⟩
def MergeV (R : RO) (r : Value) (s : Se) (rl : List Nd) (ms : List Mv) (ds : List De) : Prop := match allD ds with
 | .error k => r = .tuple #[.slice none 0 0, .slice none 0 0, .int .i64 k]
 | .ok o => if s.length < 1 ∨ movesOK none ms = false then r = .tuple #[.slice none 0 0, .slice none 0 0, .int .i64 1]
  else ∃ u v, r = .tuple #[u, v, .int .i64 0] ∧ PartsV R u (mergeP s rl ms o) ∧ EncV Ov.cells 4 R v (recsD o)
/-! ### Plain facts -/
theorem validD_day {d : De} (h : validD d = true) : 0 ≤ d.day := by
 unfold validD validE betw at h
 simp only [Bool.and_eq_true, decide_eq_true_eq] at h
 exact h.1.2.1
theorem distD_valid : ∀ {l out o : List De}, distD out l = some o → (∀ d ∈ out, validD d = true) → ∀ d ∈ o, validD d = true
 | [], out, o, h, hv => by simp only [distD, Option.some.injEq] at h; subst h; exact hv
 | x :: l, out, o, h, hv => by
  rw [distD] at h
  cases hx : addD out x with
  | none => rw [hx] at h; cases h
  | some o' =>
   rw [hx] at h
   refine distD_valid h fun d hd => ?_
   unfold addD at hx
   split at hx
   ·rename_i hvx
    split at hx
    ·split at hx
     ·cases hx; exact hv d hd
     ·cases hx
    ·cases hx
     rcases List.mem_append.1 hd with hd | hd
     ·exact hv d hd
     ·simp only [List.mem_cons, List.not_mem_nil, or_false] at hd; subst hd; exact hvx
   ·cases hx
theorem allD_ok {l o : List De} (h : allD l = .ok o) : ∃ o', distD [] l = some o' ∧ o = sortD o' := by
 unfold allD at h
 split at h
 ·cases h
 ·cases hd : distD [] l with
  | none => rw [hd] at h; cases h
  | some o' => rw [hd] at h; simp only [okD, Except.ok.injEq] at h; exact ⟨o', rfl, h.symm⟩
theorem allD_valid {l o : List De} (h : allD l = .ok o) : ∀ d ∈ o, validD d = true := by
 obtain ⟨o', h1, rfl⟩ := allD_ok h
 intro d hd
 exact distD_valid h1 (by simp) d ((sortD_perm o').mem_iff.1 hd)
theorem allD_sorted {l o : List De} (h : allD l = .ok o) : SortedD o := by
 obtain ⟨o', h1, rfl⟩ := allD_ok h
 exact sortD_sorted (distD_keys h1 List.Pairwise.nil)
theorem addD_len {out o : List De} {d : De} (h : addD out d = some o) : o.length ≤ out.length + 1 := by
 unfold addD at h
 split at h
 ·split at h
  ·split at h
   ·cases h; omega
   ·cases h
  ·cases h; simp
 ·cases h
theorem distD_len : ∀ {l out o : List De}, distD out l = some o → o.length ≤ out.length + l.length
 | [], out, o, h => by simp only [distD, Option.some.injEq] at h; subst h; simp
 | x :: l, out, o, h => by
  rw [distD] at h
  cases hx : addD out x with
  | none => rw [hx] at h; cases h
  | some o' => rw [hx] at h; have := distD_len h; have := addD_len hx; simp; omega
theorem allD_len {l o : List De} (h : allD l = .ok o) : o.length ≤ l.length := by
 obtain ⟨o', h1, rfl⟩ := allD_ok h
 have := distD_len h1
 rw [(sortD_perm o').length_eq]; simpa using this
theorem partsGo_days (e : Int) (f : Int → Ti) : ∀ (l : List Int) (out : List (Int × Ti)), ∃ r, (partsGo e f l out).map (·.1) = out.map (·.1) ++ r ∧ r.Sublist l
 | [], out => ⟨[], by simp [partsGo], List.Sublist.refl _⟩
 | d :: l, out => by
  rw [partsGo]
  split
  ·exact ⟨[d], by simp, by simp⟩
  ·have h1 : ∃ r, (partsGo e f l out).map (·.1) = out.map (·.1) ++ r ∧ r.Sublist (d :: l) := by
    obtain ⟨r, h1, h2⟩ := partsGo_days e f l out
    exact ⟨r, h1, h2.cons d⟩
   have h2 : ∃ r, (partsGo e f l (out ++ [(d, f d)])).map (·.1) = out.map (·.1) ++ r ∧ r.Sublist (d :: l) := by
    obtain ⟨r, h1, h2⟩ := partsGo_days e f l (out ++ [(d, f d)])
    exact ⟨d :: r, by rw [h1]; simp, h2.cons_cons d⟩
   split
   ·split
    ·exact h1
    ·exact h2
   ·exact h2
theorem partsGo_head (e : Int) (f : Int → Ti) (d : Int) (l : List Int) : ∃ r, (partsGo e f (d :: l) []).map (·.1) = d :: r ∧ r.Sublist l := by
 rw [partsGo]
 split
 ·exact ⟨[], by simp, by simp⟩
 ·obtain ⟨r, h1, h2⟩ := partsGo_days e f l [(d, f d)]
  exact ⟨r, by simpa using h1, h2⟩
theorem rising_zero {l : List Int} (h : ∀ x ∈ l, 0 ≤ x) : ∃ r, rising (0 :: l) = 0 :: r := by
  have hi := rising_inc (0 :: l)
  cases hr : rising (0 :: l) with
  | nil => have : (0 : Int) ∈ rising (0 :: l) := by rw [mem_rising]; simp
           rw [hr] at this; simp at this
  | cons x r =>
    have h0 : (0 : Int) ∈ rising (0 :: l) := by rw [mem_rising]; simp
    have hx : 0 ≤ x := by
      have : x ∈ rising (0 :: l) := by rw [hr]; simp
      rw [mem_rising] at this
      rcases List.mem_cons.1 this with h' | h'
      · omega
      · exact h x h'
    rw [hr] at h0 hi
    rcases List.mem_cons.1 h0 with h' | h'
    · exact ⟨r, by rw [← h']⟩
    · have := (List.pairwise_cons.1 hi).1 0 h'; omega
theorem partsD_days (s : Se) (rl : List Nd) (ds : List De) (e : Int) (h : ∀ d ∈ ds, 0 ≤ d.day) : Inc ((partsD s rl ds e).map (·.1)) ∧ (∃ r, (partsD s rl ds e).map (·.1) = 0 :: r) ∧ (partsD s rl ds e).length ≤ ds.length + 1 := by
 obtain ⟨r, hr⟩ := rising_zero (l := ds.map (·.day)) (fun x hx => by obtain ⟨d, hd, rfl⟩ := List.mem_map.1 hx; exact h d hd)
 have hi := rising_inc (0 :: ds.map (·.day))
 have hl := rising_len (0 :: ds.map (·.day))
 unfold partsD
 rw [hr] at *
 obtain ⟨q, h1, h2⟩ := partsGo_head e (tiOn s rl ds) 0 r
 refine ⟨?_, ⟨q, h1⟩, ?_⟩
 ·rw [h1]; exact List.Pairwise.sublist (h2.cons_cons 0) hi
 ·have h3 := congrArg List.length h1
  rw [List.length_map] at h3
  have := h2.length_le
  simp at h3 hl
  omega
theorem Inc.filter_le {l : List Int} (h : Inc l) {i : Nat} (hi : i < l.length) (day : Int) (h1 : l[i] ≤ day) (h2 : ∀ j, (hj : j < l.length) → i < j → day < l[j]) : (l.filter fun f => decide (f ≤ day)).length = i + 1 := by
 have e : l = l.take (i + 1) ++ l.drop (i + 1) := (List.take_append_drop _ _).symm
 have f1 : (l.take (i + 1)).filter (fun f => decide (f ≤ day)) = l.take (i + 1) := by
  rw [List.filter_eq_self]
  intro a ha
  obtain ⟨j, hj, rfl⟩ := List.mem_iff_getElem.1 ha
  rw [List.getElem_take]
  rw [List.length_take] at hj
  have : l[j] ≤ l[i] := by
   rcases Nat.lt_or_ge j i with hji | hji
   ·have := h.get_lt hji hi; omega
   ·have : j = i := by omega
    subst this; exact Int.le_refl _
  simp; omega
 have f2 : (l.drop (i + 1)).filter (fun f => decide (f ≤ day)) = [] := by
  rw [List.filter_eq_nil_iff]
  intro a ha
  obtain ⟨j, hj, rfl⟩ := List.mem_iff_getElem.1 ha
  rw [List.getElem_drop]
  rw [List.length_drop] at hj
  have := h2 (i + 1 + j) (by omega) (by omega)
  simp; omega
 conv => lhs; rw [e]
 rw [List.filter_append, f1, f2, List.append_nil, List.length_take]
 omega
theorem partAt_eq {l : List Int} (h : Inc l) {i : Nat} (hi : i < l.length) (day : Int) (h1 : l[i] ≤ day) (h2 : ∀ j, (hj : j < l.length) → i < j → day < l[j]) : partAt l day = i := by
 unfold partAt
 rw [Inc.filter_le h hi day h1 h2]; omega
theorem pairwise_ne_mem {α β : Type} {f : α → β} : ∀ {l : List α}, l.Pairwise (fun a b => f a ≠ f b) → ∀ {a b : α}, a ∈ l → b ∈ l → f a = f b → a = b
 | [], _, a, b, ha, _, _ => by simp at ha
 | x :: l, h, a, b, ha, hb, e => by
  have h' := List.pairwise_cons.1 h
  rcases List.mem_cons.1 ha with ea | ha2
  ·rcases List.mem_cons.1 hb with eb | hb2
   ·rw [ea, eb]
   ·rw [ea] at e; exact absurd e (h'.1 b hb2)
  ·rcases List.mem_cons.1 hb with eb | hb2
   ·rw [eb] at e; exact absurd e.symm (h'.1 a ha2)
   ·exact pairwise_ne_mem h'.2 ha2 hb2 e
theorem sortM_perm (l : List Mv) : (sortM l).Perm l := List.mergeSort_perm _ _
theorem sortM_le (l : List Mv) : (sortM l).Pairwise fun a b => a.day ≤ b.day := by
 have := List.pairwise_mergeSort (le := fun a b : Mv => decide (a.day ≤ b.day)) (fun a b c h1 h2 => by simp at *; omega) (fun a b => by simp; omega) l
 exact this.imp fun h => by simpa using h
theorem sortM_eq {l ys : List Mv} (hd : l.Pairwise fun a b => a.day ≠ b.day) (hp : ys.Perm l) (hs : ys.Pairwise fun a b => a.day ≤ b.day) : ys = sortM l :=
 List.Perm.eq_of_pairwise (le := fun a b : Mv => a.day ≤ b.day) (fun a b ha hb h1 h2 => pairwise_ne_mem (f := Mv.day) hd (hp.mem_iff.1 ha) ((sortM_perm l).mem_iff.1 hb) (by omega)) hs (sortM_le l) (hp.trans (sortM_perm l).symm)
theorem validD_move {d : De} (h : validD d = true) (hk : d.kind = 1) : moveOK d.mv = true ∧ d.mv.day = d.day := by
 unfold validD validE at h
 simp only [Bool.and_eq_true] at h
 have h4 := h.2
 unfold kindE at h4
 rw [if_pos (show (d.ed none d.rule.length 0).kind = 1 from hk)] at h4
 simp only [Bool.and_eq_true, decide_eq_true_eq] at h4
 exact ⟨h4.1.1, h4.1.2⟩
theorem movesOK_pair : ∀ {ms : List Mv} {p : Option Int}, movesOK p ms = true → (ms.Pairwise fun a b => a.day < b.day) ∧ ∀ d, p = some d → ∀ m ∈ ms, d < m.day
 | [], _, _ => ⟨List.Pairwise.nil, by simp⟩
 | x :: r, p, h => by
  have h' : (moveOK x && ((match p with | none => true | some d => decide (d < x.day)) && movesOK (some x.day) r)) = true := by cases p <;> exact h
  simp only [Bool.and_eq_true] at h'
  obtain ⟨h1, h2⟩ := movesOK_pair h'.2.2
  refine ⟨List.pairwise_cons.2 ⟨fun m hm => h2 _ rfl m hm, h1⟩, ?_⟩
  rintro d rfl m hm
  have h3 : d < x.day := by simpa using h'.2.1
  rcases List.mem_cons.1 hm with rfl | hm
  ·exact h3
  ·have := h2 _ rfl m hm; omega
theorem overD_move {a b : De} (ha : a.kind = 1) (hb : b.kind = 1) : overD a b = (lessD a b && decide (a.day = b.day)) := by
 unfold overD overE
 rw [if_pos ⟨ha, hb⟩]
 rfl
theorem mem_forceD {o : List De} {d : De} : d ∈ forceD o ↔ d ∈ o ∧ ∀ b ∈ o, overD d b = false := by
 unfold forceD
 rw [List.mem_filter]
 simp
theorem forceD_sorted {o : List De} (h : SortedD o) : SortedD (forceD o) := List.Pairwise.sublist List.filter_sublist h
theorem movesD_ne {ms : List Mv} {o : List De} {e : Int} (hs : SortedD o) (hv : ∀ d ∈ o, validD d = true) (hm : movesOK none ms = true) : (movesD ms (forceD o) e).Pairwise fun a b => a.day ≠ b.day := by
 unfold movesD
 rw [List.pairwise_append]
 refine ⟨?_, ?_, ?_⟩
 ·rw [List.pairwise_map]
  have h1 : SortedD ((forceD o).filter isMove) := List.Pairwise.sublist List.filter_sublist (forceD_sorted hs)
  refine List.Pairwise.imp_of_mem (fun {a b} ha hb hab => ?_) h1
  obtain ⟨ha1, ha2⟩ := List.mem_filter.1 ha
  obtain ⟨hb1, hb2⟩ := List.mem_filter.1 hb
  obtain ⟨ha3, ha4⟩ := mem_forceD.1 ha1
  have hb3 := (mem_forceD.1 hb1).1
  have ka : a.kind = 1 := by simpa [isMove] using ha2
  have kb : b.kind = 1 := by simpa [isMove] using hb2
  rw [(validD_move (hv a ha3) ka).2, (validD_move (hv b hb3) kb).2]
  intro hd
  have := ha4 b hb3
  rw [overD_move ka kb, hab, decide_eq_true hd] at this
  cases this
 ·refine List.Pairwise.sublist List.filter_sublist ((movesOK_pair hm).1.imp fun h => ?_)
  omega
 ·intro a ha b hb
  obtain ⟨d, hd, rfl⟩ := List.mem_map.1 ha
  obtain ⟨hd1, hd2⟩ := List.mem_filter.1 hd
  obtain ⟨hb1, hb2⟩ := List.mem_filter.1 hb
  have kd : d.kind = 1 := by simpa [isMove] using hd2
  rw [(validD_move (hv d (mem_forceD.1 hd1).1) kd).2]
  intro hdd
  simp only [Bool.and_eq_true, Bool.not_eq_true', List.any_eq_false] at hb2
  have := hb2.2.1 d hd1
  simp [isMoveOn, kd, hdd] at this
end Go.Proofs.YtcjdbfnnbejmeaaGreat
namespace Go.Proofs.YtcjdbfnnbejmeaaGreat
set_option linter.unusedSimpArgs false
set_option linter.unusedVariables false
open Go.Proofs.YtcjdbfnnbejmeaaGreat.Vc
def prevM (ms : List Mv) (i : Nat) : Option Int := if i = 0 then none else (ms[i - 1]?).map (·.day)
abbrev Pq := Pa × Value × Value
def Pq.cells (p : Pq) : List Value := paCells p.1.day ⟨p.2.1, p.1.ti.minute, p.1.ti.length, p.1.ti.zone, p.1.ti.gap, p.1.ti.fold, p.2.2⟩
def Pq.OK (R : RO) (p : Pq) : Prop := RuleV R p.2.1 p.1.ti.rule ∧ EncV Mv.cells 5 R p.2.2 p.1.moves
def rowPq (ps : List Pq) : List Value := (ps.map Pq.cells).flatten
theorem rowPq_cl (ps : List Pq) : ∀ c ∈ ps.map Pq.cells, c.length = 8 := fun c hc => by obtain ⟨x, _, rfl⟩ := List.mem_map.1 hc; rfl
theorem rowPq_len (ps : List Pq) : (rowPq ps).length = ps.length * 8 := by
 unfold rowPq
 rw [length_flattenK (rowPq_cl ps)]
 simp
theorem rowPq_get (ps : List Pq) (i j : Nat) (hi : i < ps.length) (hj : j < 8) : (rowPq ps)[i * 8 + j]? = (ps[i].cells)[j]? :=
 getElem?_flatten (rowPq_cl ps) i j _ (by rw [List.getElem?_map, List.getElem?_eq_getElem hi]; rfl) hj
theorem movesOK_nil (p : Option Int) : movesOK p [] = true := by cases p <;> rfl
def ltO : Option Int → Int → Bool
 | none, _ => true
 | some d, x => decide (d < x)
theorem movesOK_cons (p : Option Int) (m : Mv) (r : List Mv) : movesOK p (m :: r) = (moveOK m && (ltO p m.day && movesOK (some m.day) r)) := by cases p <;> rfl
theorem rowPq_set (ps : List Pq) (i : Nat) (hi : i < ps.length) (ms : List Mv) (v : Value) : (rowPq ps).set (i * 8 + 7) v = rowPq (ps.set i (⟨ps[i].1.day, ps[i].1.ti, ms⟩, ps[i].2.1, v)) := by
 unfold rowPq
 rw [flat_set _ (rowPq_cl ps) i 7 v (ps[i].cells) (by rw [List.getElem?_map, List.getElem?_eq_getElem hi]; rfl) (by omega), List.map_set]
 rfl
def shrM (b cap : Nat) (cur : List Mv) : Blk := if cur = [] then .dead else .shr b cap 27 5 (rowM cur)
theorem shrM_ne {b cap : Nat} {cur : List Mv} (h : cur ≠ []) : shrM b cap cur = .shr b cap 27 5 (rowM cur) := if_neg h
theorem scB_shrM (n b cap : Nat) (cur : List Mv) : scB n (shrM b cap cur) = true := by unfold shrM; split <;> rfl
theorem blkM_shrM (ρ sb i b cap cur r) : blkM ρ sb i (shrM b cap cur :: r) = ((cur ≠ [] → sb[rn ρ i]? = some (shrM b cap cur)) ∧ blkM ρ sb (i + 1) r) := by
 unfold shrM
 split
 ·rename_i h; simp [h, tBlkM_dead]
 ·rename_i h; simp [h, tBlkM_shr]
theorem unslB_shrM (k b' c' b cap : Nat) (cur : List Mv) : unslB k b' c' (shrM b cap cur) = shrM b cap cur := by unfold shrM; split <;> rfl
theorem movesOK_all : ∀ {ms : List Mv} {p : Option Int}, movesOK p ms = true → ∀ m ∈ ms, moveOK m = true
 | [], _, _, m, hm => by simp at hm
 | x :: r, p, h, m, hm => by
  have h' : (moveOK x && ((match p with | none => true | some d => decide (d < x.day)) && movesOK (some x.day) r)) = true := by cases p <;> exact h
  simp only [Bool.and_eq_true] at h'
  rcases List.mem_cons.1 hm with rfl | hm
  ·exact h'.1
  ·exact movesOK_all h'.2.2 m hm
theorem moveOK_day {m : Mv} (h : moveOK m = true) : 0 ≤ m.day := by
 unfold moveOK betw at h
 simp only [Bool.and_eq_true, decide_eq_true_eq] at h
 exact h.1.1
theorem movesD_day {ms : List Mv} {ds : List De} {e : Int} (h1 : ∀ m ∈ ms, moveOK m = true) (h2 : ∀ d ∈ ds, validD d = true) : ∀ m ∈ movesD ms ds e, 0 ≤ m.day := by
 intro m hm
 rcases List.mem_append.1 hm with hm | hm
 ·obtain ⟨d, hd, rfl⟩ := List.mem_map.1 hm
  obtain ⟨hd1, hd2⟩ := List.mem_filter.1 hd
  exact moveOK_day (validD_move (h2 d hd1) (by simpa [isMove] using hd2)).1
 ·exact moveOK_day (h1 m (List.mem_filter.1 hm).1)
attribute [local go_sem] scB_shrM blkM_shrM unslB_shrM
theorem EncV.len0 {α : Type} {enc : α → List Value} {k : Nat} {R : RO} {a : Option Addr} {c : Nat} {xs : List α} (h : EncV enc k R (.slice a 0 c) xs) : xs = [] := by
 obtain ⟨a', cap, e, _⟩ := h.form
 simp only [Value.slice.injEq] at e
 exact List.eq_nil_of_length_eq_zero (by omega)
theorem setG_nil (l x : List Blk) : setG l [] x = l ++ x := by cases x <;> rfl
theorem eMerge (s : Se) (rl : List Nd) (ms : List Mv) (ds : List De) (v : Value) (R : RO) (hr : RuleV R s.rule rl) (hm : EncV Mv.cells 5 R s.moves ms) (h : EdsV R v ds) (hsz : ms.length + ds.length ≤ 63) : CallsR Tryz.prog 36 [.agg s.cells.toArray, v] R fun R' r => MergeV R' r s rl ms ds := by
 have hS := eRebase ds v R h
 have hsr := hr.one
 obtain ⟨a0, cap0, rfl, _⟩ := h.form
 have hm0 := hm
 obtain ⟨sr, sm, sl, sz, sg, sf, smv⟩ := s
 dsimp only at hr hm hsr hm0
 obtain ⟨ra0, rn0, rc0, rfl⟩ := hr.form
 obtain ⟨ma, mcap, rfl, hmc, hmf⟩ := hm.form
 simp only [Se.cells]
 refine callsT mix Tryz.func36 comp36 (by simp [Tryz.ntmps36]) ?_; simp only [go_sem, ↓reduceIte, nQ1, nQ2, nQ3, nQ4, nQ5, nQ6, reduceCtorEq, vc36, rs36]
 refine vcall hS ?_
 intro R1 r hle1 hr1
 unfold MergeV
 unfold RebV at hr1
 cases hall : allD ds with
 | error k =>
  have hk := allD_error hall
  rw [hall] at hr1
  dsimp only at hr1
  subst hr1
  try simp only [go_sem, ↓reduceIte, nQ1, nQ2, nQ3, nQ4, nQ5, nQ6, reduceCtorEq]
  exact fun h0 => by omega
 | ok o =>
  rw [hall] at hr1
  dsimp only at hr1
  obtain ⟨u, w, rfl, hu, hw⟩ := hr1
  obtain ⟨a, cap, rfl, _⟩ := hu.form
  obtain ⟨wa, wcap, rfl, _⟩ := hw.form
  try simp only [go_sem, ↓reduceIte, nQ1, nQ2, nQ3, nQ4, nQ5, nQ6, reduceCtorEq]
  refine ⟨fun hl => ?_, fun hl => ?_⟩
  ·rw [if_pos (.inl hl)]; trivial
  refine vcLoop Nat (fun i => [(33, .val (.int .i64 i)), (32, .val (.int .i64 ms.length)), (31, .val (.slice ma ms.length mcap)), (2, .loc 0 0), (7, .val (.slice a (forceD o).length cap)), (8, .val (.slice wa (recsD o).length wcap))])
   (fun i => [.box [.val (.slice ra0 rn0 rc0), .val (.int .i64 sm), .val (.int .i64 sl), .val (.string sz), .val (.int .i64 sg), .val (.int .i64 sf), .val (.slice ma ms.length mcap)]])
   (fun i R => i ≤ ms.length ∧ movesOK none ms = movesOK (prevM ms i) (ms.drop i)) (fun i => ms.length - i) 0 ?_ ?_ ?_ ?_
  ·(try simp only [go_sem, ↓reduceIte, nQ1, nQ2, nQ3, nQ4, nQ5, nQ6, reduceCtorEq]) <;> (repeat' (first | rfl | trivial | constructor | (intro h; exact absurd rfl h)))
  ·try simp only [go_sem, ↓reduceIte, nQ1, nQ2, nQ3, nQ4, nQ5, nQ6, reduceCtorEq]
  ·exact ⟨Nat.zero_le _, rfl⟩
  ·rintro i env R2 hle2 hE ⟨hi, hok⟩
   (simp only [go_sem] at hE; obtain ⟨e33, e32, e31, e2, e7, e8⟩ := hE; simp only [go_sem, ↓reduceIte, nQ1, nQ2, nQ3, nQ4, nQ5, nQ6, reduceCtorEq, e33, e32, e31, e2, e7, e8]; dsimp only at *)
   refine ⟨fun hlt => ⟨hlt, ?_⟩, fun hge => ?_⟩
   ·have hlt' : i < ms.length := by omega
    obtain ⟨ad, had, hR⟩ := hmf i hlt'
    have hdrop := List.drop_eq_getElem_cons hlt'
    rw [hdrop, movesOK_cons] at hok
    refine vat ad had ?_
    try simp only [go_sem, ↓reduceIte, nQ1, nQ2, nQ3, nQ4, nQ5, nQ6, reduceCtorEq]
    refine vloadn (ms[i]).cells rfl (fun j u hj => hle2 _ _ (hle1 _ _ (hR j u hj))) ?_
    simp only [go_sem, ↓reduceIte, nQ1, nQ2, nQ3, nQ4, nQ5, nQ6, reduceCtorEq, Mv.cells, e33, e32, e31, e2, e7, e8]
    refine vcall (eValidMove ms[i] R2) ?_
    rintro R3 v hle3 rfl
    simp only [go_sem, ↓reduceIte, nQ1, nQ2, nQ3, nQ4, nQ5, nQ6, reduceCtorEq, e33, e32, e31, e2, e7, e8]
    have hnext : movesOK (some ms[i].day) (ms.drop (i + 1)) = movesOK (prevM ms (i + 1)) (ms.drop (i + 1)) := by
     unfold prevM
     rw [if_neg (by omega), show i + 1 - 1 = i by omega, List.getElem?_eq_getElem hlt']
     rfl
    refine ⟨fun hv => ⟨fun hpos => ?_, fun hz => ?_⟩, fun hv => ?_⟩
    ·obtain ⟨ad', had', hR'⟩ := hmf (i - 1) (by omega)
     have hti : ((i : Int) - 1).toNat = i - 1 := by omega
     have hp : prevM ms i = some (ms[i - 1]).day := by
      unfold prevM
      rw [if_neg (by omega), List.getElem?_eq_getElem (by omega)]
      rfl
     rw [hp, hv] at hok
     refine ⟨_, W.in64 (by omega), by omega, by omega, ?_⟩
     rw [hti]
     refine vat ad' had' ?_
     try simp only [go_sem, ↓reduceIte, nQ1, nQ2, nQ3, nQ4, nQ5, nQ6, reduceCtorEq]
     refine vload _ (hle3 _ _ (hle2 _ _ (hle1 _ _ (hR' 0 _ rfl)))) ?_
     simp only [go_sem, ↓reduceIte, nQ1, nQ2, nQ3, nQ4, nQ5, nQ6, reduceCtorEq, e33, e32, e31, e2, e7, e8]
     refine ⟨fun hge => ?_, fun hlt2 => ?_⟩
     ·rw [hok, if_pos (.inr (by simp [ltO]; omega))]
      trivial
     ·refine ⟨_, W.in64 (by omega), i + 1, by omega, by constructor, by omega, ?_⟩
      rw [hok, ← hnext]
      simp [ltO]; omega
    ·obtain rfl : i = 0 := by omega
     refine ⟨_, W.in64 (by omega), 1, by omega, by constructor, by omega, ?_⟩
     rw [hok, ← hnext, hv]
     rfl
    ·rw [hok, hv, if_pos (.inr rfl)]
     trivial
   ·obtain rfl : i = ms.length := by omega
    rw [List.drop_length, movesOK_nil] at hok
    have hm2 : (Value.slice ma ms.length mcap).oneCell' = true := rfl
    refine vcall (eBegin ⟨.slice ra0 rn0 rc0, sm, sl, sz, sg, sf, .slice ma ms.length mcap⟩ (forceD o) _ R2 hsr hm2 (hu.mono hle2)) ?_
    rintro R3 v hle3 rfl
    simp only [go_sem, ↓reduceIte, nQ1, nQ2, nQ3, nQ4, nQ5, nQ6, reduceCtorEq, Se.cells, e33, e32, e31, e2, e7, e8]
    have hol := allD_len hall
    have hfl : (forceD o).length ≤ o.length := List.length_filter_le _ _
    have hle13 := RO.le_trans hle1 (RO.le_trans hle2 hle3)
    have hday : ∀ d ∈ forceD o, 0 ≤ d.day := fun d hd => validD_day (allD_valid hall d (List.mem_filter.1 hd).1)
    obtain ⟨hinc, hzero, hpl⟩ := partsD_days ⟨.slice ra0 rn0 rc0, sm, sl, sz, sg, sf, .slice ma ms.length mcap⟩ rl (forceD o) (endE (forceD o)) hday
    have hP := eParts ⟨.slice ra0 rn0 rc0, sm, sl, sz, sg, sf, .slice ma ms.length mcap⟩ rl (forceD o) _ (endE (forceD o)) R3 (hr.mono hle13) hm2 (hu.mono (RO.le_trans hle2 hle3)) (by omega)
    have hM := eMoves ⟨.slice ra0 rn0 rc0, sm, sl, sz, sg, sf, .slice ma ms.length mcap⟩ ms (forceD o) (.slice a (forceD o).length cap) (endE (forceD o))
    obtain ⟨pd, hpd⟩ : ∃ pd, pd = partsD ⟨.slice ra0 rn0 rc0, sm, sl, sz, sg, sf, .slice ma ms.length mcap⟩ rl (forceD o) (endE (forceD o)) := ⟨_, rfl⟩
    rw [← hpd] at hinc hzero hpl hP
    refine vhand0 [] [.val (.agg #[.slice ra0 rn0 rc0, .int .i64 sm, .int .i64 sl, .string sz, .int .i64 sg, .int .i64 sf, .slice ma ms.length mcap, .slice a (forceD o).length cap, .int .i64 (endE (forceD o))])] [] hP rfl rfl rfl trivial (by simp) rfl rfl ?_
    rintro R4 bs r hle4 ⟨ps, hne, hpo, hps, j, rfl, hbj⟩ _
    have hpsl : ps.length = pd.length := by rw [← hps]; simp
    have hjl : j < bs.length := (List.getElem?_eq_some_iff.1 hbj).1
    have hrj : ren ([] ++ List.range' 2 (bs.length - 0)) (.sl j ps.length) = .sl (2 + j) ps.length := by
     simp [ren, rn, hjl]
    obtain ⟨bs', hbs'⟩ : ∃ bs', bs' = bs.map (renB ([] ++ List.range' 2 (bs.length - 0))) := ⟨_, rfl⟩
    have hb'j : bs'[j]? = some (.row 55 8 (rowPp ps)) := by
     rw [hbs', List.getElem?_map, hbj]; rfl
    simp only [go_sem, ↓reduceIte, nQ1, nQ2, nQ3, nQ4, nQ5, nQ6, reduceCtorEq, setG_nil, hrj]
    rw [List.nil_append] at hbs'
    rw [← hbs']
    refine ⟨fun h => by omega, fun _ => ?_⟩
    refine vcall (hM R4 rfl (hm0.mono (RO.le_trans hle13 hle4)) (hu.mono (RO.le_trans hle2 (RO.le_trans hle3 hle4))) (by omega)) ?_
    rintro R5 v hle5 ⟨ys, hys, hperm, hpw⟩
    obtain ⟨ya, ycap, rfl, hyc, hyf⟩ := hys.form
    try simp only [go_sem, ↓reduceIte, nQ1, nQ2, nQ3, nQ4, nQ5, nQ6, reduceCtorEq]
    obtain ⟨days, hdays⟩ : ∃ days, days = pd.map (·.1) := ⟨_, rfl⟩
    rw [← hdays] at hinc hzero
    have hdl : days.length = pd.length := by rw [hdays]; simp
    have hyl : ys.length ≤ 63 := by
     have h1 := hperm.length_eq
     have h2 : (movesD ms (forceD o) (endE (forceD o))).length ≤ (forceD o).length + ms.length := by
      unfold movesD
      rw [List.length_append, List.length_map]
      exact Nat.add_le_add (List.length_filter_le _ _) (List.length_filter_le _ _)
     omega
    have hyday : ∀ m ∈ ys, 0 ≤ m.day := fun m hm => movesD_day (movesOK_all hok) (fun d hd => allD_valid hall d (List.mem_filter.1 hd).1) m (hperm.mem_iff.1 hm)
    refine vcLoopR (Nat × List Pq × Nat × Nat × Nat × List Mv) (fun x => [(69, .val (.int .i64 x.1)), (68, .val (.int .i64 ys.length)), (67, .val (.slice ya ys.length ycap)), (13, .sl 0 pd.length), (8, .val (.slice wa (recsD o).length wcap))])
     (fun x => [.row 55 8 (rowPq x.2.1), shrM x.2.2.2.1 x.2.2.2.2.1 x.2.2.2.2.2])
     (fun x R => x.1 ≤ ys.length ∧ x.2.1.length = pd.length ∧ x.2.2.1 < pd.length ∧
      (∀ (i : Nat) (p : Pq), x.2.1[i]? = some p → pd[i]? = some (p.1.day, p.1.ti) ∧ p.1.moves = (ys.take x.1).filter (fun m => decide (partAt days m.day = i)) ∧ Pq.OK R p ∧ (x.2.2.1 < i → p.2.2 = .slice none 0 0)) ∧
      (∀ p : Pq, x.2.1[x.2.2.1]? = some p → p.1.moves = x.2.2.2.2.2 ∧ (x.2.2.2.2.2 = [] → p.2.2 = .slice none 0 0) ∧ (x.2.2.2.2.2 ≠ [] → p.2.2 = .slice (some ⟨x.2.2.2.1, 0, none⟩) x.2.2.2.2.2.length x.2.2.2.2.1)) ∧
      (∀ (j : Nat) (h : j < ys.length), x.1 ≤ j → ∀ d, days[x.2.2.1]? = some d → d ≤ (ys[j]).day)) (fun x => ys.length - x.1)
     (0, ps.map (fun p => (⟨p.1, p.2.1, []⟩, p.2.2, .slice none 0 0)), 0, 0, 0, []) [2 + j, 0] ?_ ?_ ?_ ?_
    ·(try simp only [go_sem, ↓reduceIte, nQ1, nQ2, nQ3, nQ4, nQ5, nQ6, reduceCtorEq]) <;> (repeat' (first | rfl | trivial | constructor | (intro h; exact absurd rfl h)))
     ·simp [hjl, hpsl]
     ·rw [show (2 : Nat) + j = j + 1 + 1 by omega, List.getElem?_cons_succ, List.getElem?_cons_succ, hb'j]
      unfold rowPp rowPq
      rw [List.map_map]
      rfl
    ·try simp only [go_sem, ↓reduceIte, nQ1, nQ2, nQ3, nQ4, nQ5, nQ6, reduceCtorEq]
     simp [rnInj, rn, List.range_succ]
     omega
    ·dsimp only
     have hpl0 : pd ≠ [] := by
      obtain ⟨r, hz⟩ := hzero
      intro e
      rw [hdays, e] at hz; simp at hz
     refine ⟨Nat.zero_le _, by simp [hpsl], List.length_pos_iff.2 hpl0, fun i p hp => ?_, fun p hp => ?_, fun j h _ d hd => ?_⟩
     ·rw [List.getElem?_map] at hp
      obtain ⟨q, hq, rfl⟩ := Option.map_eq_some_iff.1 hp
      refine ⟨?_, by simp, ⟨(hpo q (List.mem_of_getElem? hq)).mono hle5, EncV.nil _ _ _⟩, fun _ => rfl⟩
      rw [← hps, List.getElem?_map, hq]; rfl
     ·rw [List.getElem?_map] at hp
      obtain ⟨q, hq, rfl⟩ := Option.map_eq_some_iff.1 hp
      exact ⟨rfl, fun _ => rfl, fun h => absurd rfl h⟩
     ·obtain ⟨r, hz⟩ := hzero
      rw [hz] at hd
      simp only [List.getElem?_cons_zero, Option.some.injEq] at hd
      have := hyday _ (List.getElem_mem h)
      omega
    rintro ⟨k, pqs, c, b, cap2, cur⟩ env R6 hle6 hE ⟨hk, hpl2, hc, hparts, hcur, hrest⟩
    (simp only [go_sem] at hE; obtain ⟨e69, e68, e67, e13, e8⟩ := hE; simp only [go_sem, ↓reduceIte, nQ1, nQ2, nQ3, nQ4, nQ5, nQ6, reduceCtorEq, e69, e68, e67, e13, e8]; dsimp only at *)
    refine ⟨fun hlt => ⟨hlt, ?_⟩, fun hge => ?_⟩
    ·have hlt' : k < ys.length := by omega
     obtain ⟨ad, had, hR⟩ := hyf k hlt'
     obtain ⟨m, hm⟩ : ∃ m, m = ys[k] := ⟨_, rfl⟩
     rw [← hm] at hR
     refine vat ad had ?_
     try simp only [go_sem, ↓reduceIte, nQ1, nQ2, nQ3, nQ4, nQ5, nQ6, reduceCtorEq]
     refine vloadn m.cells rfl (fun j u hj => hle6 _ _ (hR j u hj)) ?_
     simp only [go_sem, ↓reduceIte, nQ1, nQ2, nQ3, nQ4, nQ5, nQ6, reduceCtorEq, Mv.cells, e69, e68, e67, e13, e8]
     refine ⟨_, W.in64 (by omega), ?_⟩
     refine vcLoop Nat (fun i => [(16, .val (.int .i64 i)), (15, .loc 2 0), (13, .sl 0 pd.length), (69, .val (.int .i64 k)), (68, .val (.int .i64 ys.length)), (67, .val (.slice ya ys.length ycap)), (8, .val (.slice wa (recsD o).length wcap))])
      (fun _ => [.row 55 8 (rowPq pqs), shrM b cap2 cur, .box [.val (.int .i64 m.day), .val (.bool m.drop), .val (.int .i64 m.toDay), .val (.int .i64 m.minute), .val (.int .i64 m.length)]])
      (fun i _ => i < pd.length ∧ ∀ j, (hj : j < days.length) → i < j → m.day < days[j]) (fun i => i) (pd.length - 1) ?_ ?_ ?_ ?_
     ·(try simp only [go_sem, ↓reduceIte, nQ1, nQ2, nQ3, nQ4, nQ5, nQ6, reduceCtorEq]) <;> (repeat' (first | rfl | trivial | constructor | (intro h; exact absurd rfl h)))
      congr 2; omega
     ·try simp only [go_sem, ↓reduceIte, nQ1, nQ2, nQ3, nQ4, nQ5, nQ6, reduceCtorEq]
     ·exact ⟨by omega, fun j hj hij => by omega⟩
     rintro i env R7 hle7 hE ⟨hi, hnot⟩
     (simp only [go_sem] at hE; obtain ⟨e16, e15, e13', e69', e68', e67', e8'⟩ := hE; simp only [go_sem, ↓reduceIte, nQ1, nQ2, nQ3, nQ4, nQ5, nQ6, reduceCtorEq, e16, e15, e13', e69', e68', e67', e8']; dsimp only at *)
     have hil : i < pqs.length := by omega
     obtain ⟨p, hp⟩ : ∃ p, p = pqs[i] := ⟨_, rfl⟩
     obtain ⟨hq1, hq2, hq3, hq4⟩ := hparts i p (by rw [hp]; exact List.getElem?_eq_getElem hil)
     have hcell : ∀ j, j < 8 → (rowPq pqs)[i * 8 + j]? = p.cells[j]? := fun j hj => by rw [rowPq_get pqs i j hil hj, hp]
     have hdi : days[i]? = some p.1.day := by rw [hdays, List.getElem?_map, hq1]; rfl
     try simp only [go_sem, ↓reduceIte, nQ1, nQ2, nQ3, nQ4, nQ5, nQ6, reduceCtorEq]
     have hc0 := hcell 0 (by omega)
     rw [Nat.add_zero] at hc0
     refine ⟨by omega, _, hc0.trans rfl, ?_⟩
     try simp only [go_sem, ↓reduceIte, nQ1, nQ2, nQ3, nQ4, nQ5, nQ6, reduceCtorEq]
     refine ⟨fun hgt => ?_, fun hle => ?_⟩
     ·have hi0 : i ≠ 0 := by
       rintro rfl
       obtain ⟨r, hz⟩ := hzero
       rw [hz] at hdi
       simp only [List.getElem?_cons_zero, Option.some.injEq] at hdi
       have := hyday m (by rw [hm]; exact List.getElem_mem hlt')
       omega
      simp only [go_sem, ↓reduceIte, nQ1, nQ2, nQ3, nQ4, nQ5, nQ6, reduceCtorEq, e16, e15, e13', e69', e68', e67', e8']
      refine ⟨_, W.in64 (by omega), i - 1, by omega, ?_, by omega, fun j hj hij => ?_⟩
      ·congr 2; omega
      ·by_cases hji : j = i
       ·subst hji
        have := (List.getElem?_eq_some_iff.1 hdi).2
        omega
       ·exact hnot j hj (by omega)
     ·have hpart : partAt days m.day = i := partAt_eq hinc (by omega) m.day (by have := (List.getElem?_eq_some_iff.1 hdi).2; omega) (fun j hj hij => hnot j hj hij)
      have hci : c ≤ i := by
       rcases Nat.lt_or_ge i c with h | h
       ·have h1 := hnot c (by omega) h
        have h2 := hrest k hlt' (Nat.le_refl _) _ (List.getElem?_eq_getElem (by omega : c < days.length))
        rw [← hm] at h2
        omega
       ·exact h
      have hmv : (p.2.2 = .slice none 0 0 ∧ p.1.moves = []) ∨ (c = i ∧ cur ≠ [] ∧ p.2.2 = .slice (some ⟨b, 0, none⟩) cur.length cap2 ∧ p.1.moves = cur) := by
       rcases Nat.lt_or_ge c i with h | h
       ·have h1 := hq4 h
        have h2 := hq3.2
        rw [h1] at h2
        exact .inl ⟨h1, EncV.len0 h2⟩
       ·have hce : c = i := by omega
        subst hce
        obtain ⟨g1, g2, g3⟩ := hcur p (by rw [hp]; exact List.getElem?_eq_getElem hil)
        by_cases hn : cur = []
        ·exact .inl ⟨g2 hn, by rw [g1, hn]⟩
        ·exact .inr ⟨rfl, hn, g3 hn, g1⟩
      obtain ⟨pa, prv, pmv⟩ := p
      dsimp only at hmv hq1 hq2 hq3 hq4 hdi hle
      simp only [go_sem, ↓reduceIte, nQ1, nQ2, nQ3, nQ4, nQ5, nQ6, reduceCtorEq, e16, e15, e13', e69', e68', e67', e8']
      refine ⟨by omega, _, (hcell 7 (by omega)).trans rfl, ?_⟩
      simp only [go_sem, ↓reduceIte, nQ1, nQ2, nQ3, nQ4, nQ5, nQ6, reduceCtorEq, e16, e15, e13', e69', e68', e67', e8']
      have hnew : ∀ (R8 : RO) (nv : Value), RO.le R6 R8 → EncV Mv.cells 5 R8 nv (pa.moves ++ [m]) → ∀ (i' : Nat) (p' : Pq), (pqs.set i (⟨pqs[i].1.day, pqs[i].1.ti, pa.moves ++ [m]⟩, pqs[i].2.1, nv))[i']? = some p' →
        pd[i']? = some (p'.1.day, p'.1.ti) ∧ p'.1.moves = (ys.take (k + 1)).filter (fun m => decide (partAt days m.day = i')) ∧ Pq.OK R8 p' ∧ (i < i' → p'.2.2 = .slice none 0 0) := by
       intro R8 nv hle8 hE i' p' hp'
       have hflt := filter_snoc (fun m => decide (partAt days m.day = i')) ys k hlt'
       rw [← hm] at hflt
       rw [List.getElem?_set] at hp'
       split at hp'
       ·rename_i hii
        subst hii
        simp only [Option.some.injEq] at hp'
        subst hp'
        rw [← hp]
        refine ⟨hq1, ?_, ⟨hq3.1.mono hle8, hE⟩, fun h => by omega⟩
        rw [hflt, if_pos (by simpa using hpart), ← hq2]
       ·rename_i hii
        obtain ⟨g1, g2, g3, g4⟩ := hparts i' p' hp'
        refine ⟨g1, ?_, ⟨g3.1.mono hle8, g3.2.mono hle8⟩, fun h => g4 (by omega)⟩
        rw [hflt, if_neg (by simp only [decide_eq_true_eq]; omega), List.append_nil, ← g2]
      have hrest' : ∀ (j : Nat) (h : j < ys.length), k + 1 ≤ j → ∀ d, days[i]? = some d → d ≤ (ys[j]).day := fun j h hkj d hd => by
       rw [hdi] at hd
       simp only [Option.some.injEq] at hd
       have h1 := (List.pairwise_iff_getElem.1 hpw) k j hlt' h (by omega)
       rw [← hm] at h1
       omega
      have hself : ∀ nv : Value, ∀ p' : Pq, (pqs.set i (⟨pqs[i].1.day, pqs[i].1.ti, pa.moves ++ [m]⟩, pqs[i].2.1, nv))[i]? = some p' → p'.1.moves = pa.moves ++ [m] ∧ p'.2.2 = nv := fun nv p' hp' => by
       rw [List.getElem?_set, if_pos rfl, if_pos hil] at hp'
       simp only [Option.some.injEq] at hp'
       subst hp'
       exact ⟨rfl, rfl⟩
      have hset := rowPq_set pqs i hil (pa.moves ++ [m])
      have hrl := rowPq_len pqs
      rcases hmv with ⟨rfl, hmn⟩ | ⟨rfl, hcn, rfl, hmc⟩
      ·try simp only [go_sem, ↓reduceIte, nQ1, nQ2, nQ3, nQ4, nQ5, nQ6, reduceCtorEq]
       refine ⟨fun h => by simp at h, fun _ => ?_⟩
       simp only [go_sem, ↓reduceIte, nQ1, nQ2, nQ3, nQ4, nQ5, nQ6, reduceCtorEq, e16, e15, e13', e69', e68', e67', e8']
       refine ⟨by omega, ?_⟩
       intro b1 cap1 R8 hle8 hrow hcap8 hfr
       have hE : EncV Mv.cells 5 R8 (.slice (some ⟨b1, 0, none⟩) 1 cap1) [m] := RowIn.enc (enc := Mv.cells) (k := 5) (xs := [m]) (fun _ => rfl) (by omega) hrow hcap8 (by simp)
       rw [hmn, List.nil_append] at hnew hself hset
       refine ⟨by omega, _, W.in64 (by omega), (k + 1, pqs.set i (⟨pqs[i].1.day, pqs[i].1.ti, [m]⟩, pqs[i].2.1, .slice (some ⟨b1, 0, none⟩) 1 cap1), i, b1, cap1, [m]), [0, 4], ?_⟩
       try simp only [go_sem, ↓reduceIte, nQ1, nQ2, nQ3, nQ4, nQ5, nQ6, reduceCtorEq]
       refine ⟨by omega, ⟨rfl, hset _, rfl⟩, by decide, by omega, hpl2, hi, hnew R8 _ (RO.le_trans hle7 hle8) hE, hself _, hrest'⟩
      ·have hcl : cur.length ≤ k := by
        rw [← hmc, hq2]
        exact Nat.le_trans (List.length_filter_le _ _) (by rw [List.length_take]; omega)
       try simp only [go_sem, ↓reduceIte, nQ1, nQ2, nQ3, nQ4, nQ5, nQ6, reduceCtorEq]
       refine ⟨fun h => by omega, fun _ => ?_⟩
       simp only [go_sem, ↓reduceIte, nQ1, nQ2, nQ3, nQ4, nQ5, nQ6, reduceCtorEq, e16, e15, e13', e69', e68', e67', e8']
       obtain ⟨n, hn⟩ : ∃ n, cur.length = n + 1 := ⟨cur.length - 1, by have := List.length_pos_iff.2 hcn; omega⟩
       rw [hn]
       try simp only [go_sem, ↓reduceIte, nQ1, nQ2, nQ3, nQ4, nQ5, nQ6, reduceCtorEq]
       refine vapp 1 (rowM cur) (by rw [shrM_ne hcn]; rfl) rfl rfl (by rw [rowM_len, hn]) (by omega) ?_
       intro b' cap' R8 hle8 hrow hcap8
       simp only [go_sem, ↓reduceIte, nQ1, nQ2, nQ3, nQ4, nQ5, nQ6, reduceCtorEq, e16, e15, e13', e69', e68', e67', e8']
       have hE : EncV Mv.cells 5 R8 (.slice (some ⟨b', 0, none⟩) (n + 1 + 1) cap') (cur ++ [m]) := by
        have h1 := RowIn.enc (enc := Mv.cells) (k := 5) (xs := cur ++ [m]) (R := R8) (b := b') (cap := cap') (fun _ => rfl) (by omega) (by have := rowM_snoc cur m; unfold rowM at this; rw [this]; exact hrow) (by have := rowM_snoc cur m; unfold rowM at this; rw [this]; exact hcap8) (by simp; omega)
        rw [List.length_append, hn] at h1
        exact h1
       rw [hmc] at hnew hself hset
       refine ⟨by omega, by omega, _, W.in64 (by omega), (k + 1, pqs.set c (⟨pqs[c].1.day, pqs[c].1.ti, cur ++ [m]⟩, pqs[c].2.1, .slice (some ⟨b', 0, none⟩) (n + 1 + 1) cap'), c, b', cap', cur ++ [m]), [0, 1], ?_⟩
       try simp only [go_sem, ↓reduceIte, nQ1, nQ2, nQ3, nQ4, nQ5, nQ6, reduceCtorEq]
       refine ⟨by omega, ⟨rfl, hset _, fun h => by rw [shrM_ne h, rowM_snoc]; rfl⟩, by decide, by omega, hpl2, hi, hnew R8 _ (RO.le_trans hle7 hle8) hE, fun p hp => ⟨(hself _ p hp).1, by simp, fun _ => ?_⟩, hrest'⟩
       rw [(hself _ p hp).2]
       simp [hn]
    ·obtain rfl : k = ys.length := by omega
     rw [List.take_length] at hparts
     intro b1 cap1 R7 hle7 hrow hcap hfr
     rw [if_neg (by simp [hok]; omega)]
     have hye : ys = sortM (movesD ms (forceD o) (endE (forceD o))) := sortM_eq (movesD_ne (allD_sorted hall) (allD_valid hall) hok) hperm hpw
     have hsl := RowIn.slK hrow (rowPq_cl pqs) (by omega) hcap
     rw [List.length_map, hpl2] at hsl
     have hml : (mergeP ⟨.slice ra0 rn0 rc0, sm, sl, sz, sg, sf, .slice ma ms.length mcap⟩ rl ms o).length = pd.length := by
      unfold mergeP placeD
      rw [List.length_mapIdx, ← hpd]
     refine ⟨_, _, rfl, ⟨_, hsl, by rw [List.length_map, hml, hpl2], fun i q pa hq hpa => ?_, by rw [hml]; omega⟩, hw.mono (RO.le_trans hle2 (RO.le_trans hle3 (RO.le_trans hle4 (RO.le_trans hle5 (RO.le_trans hle6 hle7)))))⟩
     rw [List.getElem?_map] at hq
     obtain ⟨p, hp, rfl⟩ := Option.map_eq_some_iff.1 hq
     obtain ⟨g1, g2, g3, _⟩ := hparts i p hp
     unfold mergeP placeD at hpa
     rw [List.getElem?_mapIdx, ← hpd, g1, ← hdays, ← hye] at hpa
     simp only [Option.map_some, Option.some.injEq] at hpa
     subst hpa
     refine ⟨p.2.1, p.2.2, rfl, g3.1.mono hle7, ?_⟩
     dsimp only
     rw [← g2]
     exact g3.2.mono hle7
end Go.Proofs.YtcjdbfnnbejmeaaGreat
namespace Go.Proofs.YtcjdbfnnbejmeaaGreat
set_option linter.unusedSimpArgs false
set_option linter.unusedVariables false
open Go.Proofs.YtcjdbfnnbejmeaaGreat.Vc
/-! ### Package device: Series; the laws' small functions -/
/-- What Series hands back. -/
def SerV (R : RO) (r : Value) (s : Se) (rl : List Nd) (ms : List Mv) (d : Dv) : Prop :=
 if validV d = true then MergeV R r s rl ms d.edits else r = .tuple #[.slice none 0 0, .slice none 0 0, .int .i64 1]
theorem MergeV.shape {R : RO} {r : Value} {s : Se} {rl : List Nd} {ms : List Mv} {ds : List De} (h : MergeV R r s rl ms ds) : ∃ u v k, r = .tuple #[u, v, .int .i64 k] := by
 unfold MergeV at h
 split at h
 ·exact ⟨_, _, _, h⟩
 ·split at h
  ·exact ⟨_, _, _, h⟩
  ·obtain ⟨u, v, h, _⟩ := h
   exact ⟨_, _, _, h⟩
theorem dSeries (s : Se) (rl : List Nd) (ms : List Mv) (d : Dv) (v : Value) (R : RO) (hr : RuleV R s.rule rl) (hm : EncV Mv.cells 5 R s.moves ms) (h : EdsV R v d.edits) (hsz : ms.length + d.edits.length ≤ 63) :
  CallsR Tryz.prog 20 [.agg s.cells.toArray, .agg (dvCells d v).toArray] R fun R' r => SerV R' r s rl ms d := by
 have hV := dValid d v R h
 have hM := fun R' (hle : RO.le R R') => eMerge s rl ms d.edits v R' (hr.mono hle) (hm.mono hle) (h.mono hle) hsz
 have hv1 := h.one
 have hr1 := hr.one
 obtain ⟨a, cap, rfl, hc, hf⟩ := h.form
 have hM2 := hm
 obtain ⟨sr, sm, sl, sz, sg, sf, smv⟩ := s
 dsimp only at hr hm hr1 hM2
 obtain ⟨ra, rn, rc, rfl⟩ := hr.form
 obtain ⟨ma, mcap, rfl, _⟩ := hM2.form
 simp only [dvCells] at hV ⊢
 simp only [Se.cells] at hM ⊢
 refine callsT mix Tryz.func20 comp20 (by simp [Tryz.ntmps20]) ?_; simp only [go_sem, ↓reduceIte, nQ1, nQ2, nQ3, nQ4, nQ5, nQ6, reduceCtorEq, vc20, rs20]
 refine vcall hV ?_
 rintro R1 r hle1 rfl
 unfold SerV
 cases hv : validV d with
 | false =>
  try simp only [go_sem, ↓reduceIte, nQ1, nQ2, nQ3, nQ4, nQ5, nQ6, reduceCtorEq]
  try rw [if_neg (by simp)]
 | true =>
  try simp only [go_sem, ↓reduceIte, nQ1, nQ2, nQ3, nQ4, nQ5, nQ6, reduceCtorEq]
  refine vcall (hM R1 hle1) ?_
  intro R2 r hle2 hr2
  obtain ⟨u, w, k, rfl⟩ := hr2.shape
  try simp only [go_sem, ↓reduceIte, nQ1, nQ2, nQ3, nQ4, nQ5, nQ6, reduceCtorEq]
  exact hr2
def tD (m : Int) : De := ⟨2, 0, 0, 0, ⟨0, false, 0, 0, 0⟩, m, 10, [], ⟨#[]⟩⟩
theorem dTimed (m : Int) (R : RO) : CallsR Tryz.prog 18 [.int .i64 m] R fun _ r => r = .agg (((tD m).ed none 0 0).cells).toArray := by
 refine callsT mix Tryz.func18 comp18 (by simp [Tryz.ntmps18]) ?_; simp only [go_sem, ↓reduceIte, nQ1, nQ2, nQ3, nQ4, nQ5, nQ6, reduceCtorEq, vc18, rs18]
 exact rfl
theorem dSeqs (d : Dv) (v : Value) (next : Int) (l : Value) (xs : List Int) (R : RO) (h : EdsV R v d.edits) (hl : Ints R l xs) : CallsR Tryz.prog 19 [.agg (dvCells d v).toArray, .int .i64 next, l] R fun _ r => r = .bool (decide (d.next = next ∧ d.edits.map (·.seq) = xs)) := by
 have hdl : d.edits.length ≤ 1000000000 := by obtain ⟨_, _, _, _, h⟩ := h; exact h
 obtain ⟨a, cap, rfl, hc, hf⟩ := h.form
 obtain ⟨b, cap', rfl, hc', hf'⟩ := hl.form
 simp only [dvCells]
 refine callsT mix Tryz.func19 comp19 (by simp [Tryz.ntmps19]) ?_; simp only [go_sem, ↓reduceIte, nQ1, nQ2, nQ3, nQ4, nQ5, nQ6, reduceCtorEq, vc19, rs19]
 refine ⟨fun hn => ⟨fun hne => ?_, fun he => ?_⟩, fun hn => by rw [decide_eq_false (fun h => hn h.1)]⟩
 ·rw [decide_eq_false]
  rintro ⟨_, h2⟩
  have := congrArg List.length h2
  simp at this; omega
 have he' : d.edits.length = xs.length := by omega
 refine vcLoop Nat (fun i => [(7, .val (.int .i64 i)), (2, .val (.slice b xs.length cap')), (3, .loc 0 0)]) (fun _ => [.box [.val (.int .i64 d.id), .val (.int .i64 d.epoch), .val (.int .i64 d.next), .val (.slice a d.edits.length cap)]])
  (fun i _ => i ≤ xs.length ∧ (d.edits.take i).map (·.seq) = xs.take i) (fun i => xs.length - i) 0 ?_ ?_ ?_ ?_
 ·(try simp only [go_sem, ↓reduceIte, nQ1, nQ2, nQ3, nQ4, nQ5, nQ6, reduceCtorEq]) <;> (repeat' (first | rfl | trivial | constructor | (intro h; exact absurd rfl h)))
 ·try simp only [go_sem, ↓reduceIte, nQ1, nQ2, nQ3, nQ4, nQ5, nQ6, reduceCtorEq]
 ·exact ⟨Nat.zero_le _, rfl⟩
 rintro i env R1 hle1 hE ⟨hi, hp⟩
 (simp only [go_sem] at hE; obtain ⟨e7, e2, e3⟩ := hE; simp only [go_sem, ↓reduceIte, nQ1, nQ2, nQ3, nQ4, nQ5, nQ6, reduceCtorEq, e7, e2, e3]; dsimp only at *)
 refine ⟨fun hlt => ?_, fun hge => ?_⟩
 ·have hlt' : i < xs.length := by omega
  have hlt2 : i < d.edits.length := by omega
  obtain ⟨ad, ra, rn, rc, had, hR, _⟩ := hf i hlt2
  obtain ⟨bd, hbd, hRb⟩ := hf' i hlt'
  refine ⟨by omega, vat ad had ?_⟩
  try simp only [go_sem, ↓reduceIte, nQ1, nQ2, nQ3, nQ4, nQ5, nQ6, reduceCtorEq]
  refine vload _ (hle1 _ _ (hR 3 _ rfl)) ?_
  simp only [go_sem, ↓reduceIte, nQ1, nQ2, nQ3, nQ4, nQ5, nQ6, reduceCtorEq, e7, e2, e3]
  refine ⟨by omega, vat bd hbd ?_⟩
  try simp only [go_sem, ↓reduceIte, nQ1, nQ2, nQ3, nQ4, nQ5, nQ6, reduceCtorEq]
  refine vload _ (hle1 _ _ hRb) ?_
  simp only [go_sem, ↓reduceIte, nQ1, nQ2, nQ3, nQ4, nQ5, nQ6, reduceCtorEq, De.ed, e7, e2, e3]
  refine ⟨fun hne => ?_, fun heq => ?_⟩
  ·rw [decide_eq_false]
   rintro ⟨_, h2⟩
   refine hne ?_
   have h3 : (d.edits.map (·.seq))[i]? = xs[i]? := by rw [h2]
   rw [List.getElem?_map, List.getElem?_eq_getElem hlt2, List.getElem?_eq_getElem hlt'] at h3
   simpa using h3
  ·refine ⟨_, W.in64 (by omega), i + 1, by omega, by constructor, by omega, ?_⟩
   rw [List.take_succ_eq_append_getElem hlt2, List.take_succ_eq_append_getElem hlt', List.map_append, hp, ← heq]
   rfl
 ·obtain rfl : i = xs.length := by omega
  rw [List.take_length, ← he', List.take_length] at hp
  rw [decide_eq_true ⟨hn, hp⟩]
end Go.Proofs.YtcjdbfnnbejmeaaGreat
namespace Go.Proofs.YtcjdbfnnbejmeaaGreat
set_option linter.unusedSimpArgs false
set_option linter.unusedVariables false
open Go.Proofs.YtcjdbfnnbejmeaaGreat.Vc
/-! ### The laws' fixed examples -/
def mkT (dev seq m : Int) : De := ⟨2, 0, dev, seq, ⟨0, false, 0, 0, 0⟩, m, 10, [], ⟨#[]⟩⟩
theorem dsA : dvNew 3 = .ok ⟨3, 0, 1, []⟩ := by kernel_rfl
theorem dsB : dvAdd ⟨3, 0, 1, []⟩ (tD 5) = .ok ⟨3, 0, 2, [mkT 3 64 5]⟩ := by kernel_rfl
theorem dsC : dvAdd ⟨3, 0, 2, [mkT 3 64 5]⟩ (tD 6) = .ok ⟨3, 0, 3, [mkT 3 64 5, mkT 3 128 6]⟩ := by kernel_rfl
theorem dsN : dvNew 16 = .error 1 := by kernel_rfl
theorem dsO : dvNew 4 = .ok ⟨4, 0, 1, []⟩ := by kernel_rfl
theorem dsD : dvSync ⟨4, 0, 1, []⟩ ⟨3, 0, 3, [mkT 3 64 5, mkT 3 128 6]⟩ = .ok ⟨4, 0, 3, [mkT 3 64 5, mkT 3 128 6]⟩ := by kernel_rfl
theorem dsX : dvAdd ⟨4, 0, 3, [mkT 3 64 5, mkT 3 128 6]⟩ (tD 7) = .ok ⟨4, 0, 4, [mkT 3 64 5, mkT 3 128 6, mkT 4 192 7]⟩ := by kernel_rfl
theorem dsR : dvRestore ⟨3, 0, 2, [mkT 3 64 5]⟩ 1 = .ok ⟨3, 1, 2, [mkT 3 64 5]⟩ := by kernel_rfl
theorem dsS : dvAdd ⟨3, 1, 2, [mkT 3 64 5]⟩ (tD 8) = .ok ⟨3, 1, 3, [mkT 3 64 5, mkT 3 129 8]⟩ := by kernel_rfl
theorem dsR0 : dvRestore ⟨3, 0, 2, [mkT 3 64 5]⟩ 0 = .error 9 := by kernel_rfl
theorem dsT : dvSync ⟨3, 1, 2, [mkT 3 64 5]⟩ ⟨4, 0, 3, [mkT 3 64 5, mkT 3 128 6]⟩ = .ok ⟨3, 1, 3, [mkT 3 64 5, mkT 3 128 6]⟩ := by kernel_rfl
theorem dsW : dvAdd ⟨3, 0, 1, []⟩ (tD 9) = .ok ⟨3, 0, 2, [mkT 3 64 9]⟩ := by kernel_rfl
theorem dsE : dvSync ⟨3, 0, 2, [mkT 3 64 9]⟩ ⟨3, 0, 2, [mkT 3 64 5]⟩ = .error 1 := by kernel_rfl
theorem allD_of2 {l o s : List De} (h0 : l.length ≤ 4096) (h : distD [] l = some o) (hp : s.Perm o) (hs : SortedD s) : allD l = .ok s := by
 unfold allD
 rw [if_neg (by omega), h]
 show Except.ok (sortD o) = _
 rw [← sortD_eq (distD_keys h List.Pairwise.nil) hp (hs.imp fun h => lessD_asymm h)]
theorem dsAll : allD [mkT 3 64 5, mkT 3 128 6] = .ok [mkT 3 64 5, mkT 3 128 6] := allD_of2 (o := [mkT 3 64 5, mkT 3 128 6]) (by decide) (by decide) (List.Perm.refl _) (by unfold SortedD; decide)
theorem dsForce : forceD [mkT 3 64 5, mkT 3 128 6] = [mkT 3 128 6] ∧ endE [mkT 3 128 6] = 1099511627777 := by decide
theorem dsRec : recsD [mkT 3 64 5, mkT 3 128 6] = [⟨3, 64, 3, 128⟩] := by decide
theorem dsParts (s : Se) : ∃ ti, mergeP s [] [] [mkT 3 64 5, mkT 3 128 6] = [⟨0, ti, []⟩] ∧ ti.minute = 6 := by
 have h1 : rising (0 :: [mkT 3 128 6].map (·.day)) = [0] := by decide
 have h2 : partsD s [] [mkT 3 128 6] 1099511627777 = [(0, tiOn s [] [mkT 3 128 6] 0)] := by
  unfold partsD
  rw [h1, partsGo_first (by decide)]
  rfl
 have h3 : movesD [] [mkT 3 128 6] 1099511627777 = [] := by decide
 have h4 : sortM [] = [] := by simp [sortM]
 refine ⟨tiOn s [] [mkT 3 128 6] 0, ?_, rfl⟩
 unfold mergeP
 rw [dsForce.1, dsForce.2, h2, h3, h4]
 rfl
theorem dsL : dvLacks ⟨3, 0, 2, [mkT 3 64 5]⟩ ⟨4, 0, 4, [mkT 3 64 5, mkT 3 128 6, mkT 4 192 7]⟩ = [mkT 3 128 6, mkT 4 192 7] := by kernel_rfl
set_option maxRecDepth 100000 in
set_option maxHeartbeats 4000000 in
theorem dSanity (R : RO) : CallsR Tryz.prog 4 [] R fun _ v => v = .bool true := by
 refine callsT mix Tryz.func4 comp4 (by simp [Tryz.ntmps4]) ?_; simp only [go_sem, ↓reduceIte, nQ1, nQ2, nQ3, nQ4, nQ5, nQ6, reduceCtorEq, vc4, rs4]
 refine vcall (dNew 3 R) ?_
 intro R1 r h1 hr
 rw [dsA] at hr
 obtain ⟨va, rfl, wa⟩ := hr
 obtain ⟨aaa, cca, rfl, _, ffa⟩ := wa.form
 simp only [dvCells]
 try simp only [go_sem, ↓reduceIte, nQ1, nQ2, nQ3, nQ4, nQ5, nQ6, reduceCtorEq]
 refine vcall (dTimed 5 R1) ?_
 rintro R2 r h2 rfl
 try simp only [go_sem, ↓reduceIte, nQ1, nQ2, nQ3, nQ4, nQ5, nQ6, reduceCtorEq]
 refine vcall (dAdd ⟨3, 0, 1, []⟩ _ (tD 5) none 0 0 R2 (wa.mono h2) (RuleV.nil _)) ?_
 intro R3 r h3 hr
 rw [dsB] at hr
 obtain ⟨vb, rfl, wb⟩ := hr
 obtain ⟨aab, ccb, rfl, _, ffb⟩ := wb.form
 simp only [dvCells]
 try simp only [go_sem, ↓reduceIte, nQ1, nQ2, nQ3, nQ4, nQ5, nQ6, reduceCtorEq]
 refine vcall (dTimed 6 R3) ?_
 rintro R4 r h4 rfl
 try simp only [go_sem, ↓reduceIte, nQ1, nQ2, nQ3, nQ4, nQ5, nQ6, reduceCtorEq]
 refine vcall (dAdd ⟨3, 0, 2, [mkT 3 64 5]⟩ _ (tD 6) none 0 0 R4 (wb.mono h4) (RuleV.nil _)) ?_
 intro R5 r h5 hr
 rw [dsC] at hr
 obtain ⟨vc, rfl, wc⟩ := hr
 obtain ⟨aac, ccc, rfl, _, ffc⟩ := wc.form
 simp only [dvCells]
 try simp only [go_sem, ↓reduceIte, nQ1, nQ2, nQ3, nQ4, nQ5, nQ6, reduceCtorEq]
 refine vcall (dNew 16 R5) ?_
 intro R6 r h6 hr
 rw [dsN] at hr
 subst hr
 try simp only [go_sem, ↓reduceIte, nQ1, nQ2, nQ3, nQ4, nQ5, nQ6, reduceCtorEq]
 refine vcall (dNew 4 R6) ?_
 intro R7 r h7 hr
 rw [dsO] at hr
 obtain ⟨vo, rfl, wo⟩ := hr
 obtain ⟨aao, cco, rfl, _, ffo⟩ := wo.form
 simp only [dvCells]
 try simp only [go_sem, ↓reduceIte, nQ1, nQ2, nQ3, nQ4, nQ5, nQ6, reduceCtorEq]
 refine vcall (dSync ⟨4, 0, 1, []⟩ ⟨3, 0, 3, [mkT 3 64 5, mkT 3 128 6]⟩ _ _ R7 wo (wc.mono (RO.le_trans h6 h7))) ?_
 intro R8 r h8 hr
 rw [dsD] at hr
 obtain ⟨vd, rfl, wd⟩ := hr
 obtain ⟨aad, ccd, rfl, _, ffd⟩ := wd.form
 simp only [dvCells]
 try simp only [go_sem, ↓reduceIte, nQ1, nQ2, nQ3, nQ4, nQ5, nQ6, reduceCtorEq]
 refine vcall (dTimed 7 R8) ?_
 rintro R9 r h9 rfl
 try simp only [go_sem, ↓reduceIte, nQ1, nQ2, nQ3, nQ4, nQ5, nQ6, reduceCtorEq]
 refine vcall (dAdd ⟨4, 0, 3, [mkT 3 64 5, mkT 3 128 6]⟩ _ (tD 7) none 0 0 R9 (wd.mono h9) (RuleV.nil _)) ?_
 intro R10 r h10 hr
 rw [dsX] at hr
 obtain ⟨vx, rfl, wx⟩ := hr
 obtain ⟨aax, ccx, rfl, _, ffx⟩ := wx.form
 simp only [dvCells]
 try simp only [go_sem, ↓reduceIte, nQ1, nQ2, nQ3, nQ4, nQ5, nQ6, reduceCtorEq]
 refine vcall (dSeqs ⟨3, 0, 1, []⟩ _ 1 _ [] R10 (wa.mono (RO.le_trans (RO.le_trans (RO.le_trans (RO.le_trans (RO.le_trans (RO.le_trans (RO.le_trans (RO.le_trans h2 h3) h4) h5) h6) h7) h8) h9) h10)) (Ints.nil _)) ?_
 rintro R11 r h11 rfl
 rw [decide_eq_true (by exact ⟨rfl, rfl⟩)]
 try simp only [go_sem, ↓reduceIte, nQ1, nQ2, nQ3, nQ4, nQ5, nQ6, reduceCtorEq]
 refine vfreeze ?_
 try simp only [go_sem, ↓reduceIte, nQ1, nQ2, nQ3, nQ4, nQ5, nQ6, reduceCtorEq]
 intro b12 k12 R12 h12 hrow12 hcap12 hfr12
 refine vcall (dSeqs ⟨3, 0, 2, [mkT 3 64 5]⟩ _ 2 _ [64] R12 (wb.mono (RO.le_trans (RO.le_trans (RO.le_trans (RO.le_trans (RO.le_trans (RO.le_trans (RO.le_trans (RO.le_trans h4 h5) h6) h7) h8) h9) h10) h11) h12)) (RowIn.ints (xs := [64]) hrow12 (by simpa using hcap12))) ?_
 rintro R13 r h13 rfl
 rw [decide_eq_true (by exact ⟨rfl, rfl⟩)]
 try simp only [go_sem, ↓reduceIte, nQ1, nQ2, nQ3, nQ4, nQ5, nQ6, reduceCtorEq]
 refine vfreeze ?_
 try simp only [go_sem, ↓reduceIte, nQ1, nQ2, nQ3, nQ4, nQ5, nQ6, reduceCtorEq]
 intro b14 k14 R14 h14 hrow14 hcap14 hfr14
 refine vcall (dSeqs ⟨3, 0, 3, [mkT 3 64 5, mkT 3 128 6]⟩ _ 3 _ [64, 128] R14 (wc.mono (RO.le_trans (RO.le_trans (RO.le_trans (RO.le_trans (RO.le_trans (RO.le_trans (RO.le_trans (RO.le_trans h6 h7) h8) h9) h10) h11) h12) h13) h14)) (RowIn.ints (xs := [64, 128]) hrow14 (by simpa using hcap14))) ?_
 rintro R15 r h15 rfl
 rw [decide_eq_true (by exact ⟨rfl, rfl⟩)]
 try simp only [go_sem, ↓reduceIte, nQ1, nQ2, nQ3, nQ4, nQ5, nQ6, reduceCtorEq]
 obtain ⟨ad1520, ra15, rn15, rc15, had1520, hR1520, _⟩ := ffb 0 (by decide)
 try simp only [go_sem, ↓reduceIte, nQ1, nQ2, nQ3, nQ4, nQ5, nQ6, reduceCtorEq, iQ1, iQ2, iQ3, iQ4, iQ5, iQ6]
 first | refine vat ad1520 had1520 ?_ | refine ⟨by decide, vat ad1520 had1520 ?_⟩ | refine ⟨by decide, by decide, vat ad1520 had1520 ?_⟩
 try simp only [go_sem, ↓reduceIte, nQ1, nQ2, nQ3, nQ4, nQ5, nQ6, reduceCtorEq, iQ1, iQ2, iQ3, iQ4, iQ5, iQ6]
 refine vload (.int .i64 3) ((RO.le_trans (RO.le_trans (RO.le_trans (RO.le_trans (RO.le_trans (RO.le_trans (RO.le_trans (RO.le_trans (RO.le_trans (RO.le_trans (RO.le_trans h4 h5) h6) h7) h8) h9) h10) h11) h12) h13) h14) h15) _ _ (hR1520 2 _ rfl)) ?_
 try simp only [go_sem, ↓reduceIte, nQ1, nQ2, nQ3, nQ4, nQ5, nQ6, reduceCtorEq, iQ1, iQ2, iQ3, iQ4, iQ5, iQ6]
 refine vfreeze ?_
 try simp only [go_sem, ↓reduceIte, nQ1, nQ2, nQ3, nQ4, nQ5, nQ6, reduceCtorEq]
 intro b16 k16 R16 h16 hrow16 hcap16 hfr16
 refine vcall (dSeqs ⟨4, 0, 3, [mkT 3 64 5, mkT 3 128 6]⟩ _ 3 _ [64, 128] R16 (wd.mono (RO.le_trans (RO.le_trans (RO.le_trans (RO.le_trans (RO.le_trans (RO.le_trans (RO.le_trans h9 h10) h11) h12) h13) h14) h15) h16)) (RowIn.ints (xs := [64, 128]) hrow16 (by simpa using hcap16))) ?_
 rintro R17 r h17 rfl
 rw [decide_eq_true (by exact ⟨rfl, rfl⟩)]
 try simp only [go_sem, ↓reduceIte, nQ1, nQ2, nQ3, nQ4, nQ5, nQ6, reduceCtorEq]
 refine vfreeze ?_
 try simp only [go_sem, ↓reduceIte, nQ1, nQ2, nQ3, nQ4, nQ5, nQ6, reduceCtorEq]
 intro b18 k18 R18 h18 hrow18 hcap18 hfr18
 refine vcall (dSeqs ⟨4, 0, 4, [mkT 3 64 5, mkT 3 128 6, mkT 4 192 7]⟩ _ 4 _ [64, 128, 192] R18 (wx.mono (RO.le_trans (RO.le_trans (RO.le_trans (RO.le_trans (RO.le_trans (RO.le_trans (RO.le_trans h11 h12) h13) h14) h15) h16) h17) h18)) (RowIn.ints (xs := [64, 128, 192]) hrow18 (by simpa using hcap18))) ?_
 rintro R19 r h19 rfl
 rw [decide_eq_true (by exact ⟨rfl, rfl⟩)]
 try simp only [go_sem, ↓reduceIte, nQ1, nQ2, nQ3, nQ4, nQ5, nQ6, reduceCtorEq]
 refine vcall (dRestore ⟨3, 0, 2, [mkT 3 64 5]⟩ _ 1 R19 (wb.mono (RO.le_trans (RO.le_trans (RO.le_trans (RO.le_trans (RO.le_trans (RO.le_trans (RO.le_trans (RO.le_trans (RO.le_trans (RO.le_trans (RO.le_trans (RO.le_trans (RO.le_trans (RO.le_trans (RO.le_trans h4 h5) h6) h7) h8) h9) h10) h11) h12) h13) h14) h15) h16) h17) h18) h19))) ?_
 intro R20 r h20 hr
 rw [dsR] at hr
 obtain ⟨vr, rfl, wr⟩ := hr
 obtain ⟨aar, ccr, rfl, _, ffr⟩ := wr.form
 simp only [dvCells]
 try simp only [go_sem, ↓reduceIte, nQ1, nQ2, nQ3, nQ4, nQ5, nQ6, reduceCtorEq]
 refine vcall (dTimed 8 R20) ?_
 rintro R21 r h21 rfl
 try simp only [go_sem, ↓reduceIte, nQ1, nQ2, nQ3, nQ4, nQ5, nQ6, reduceCtorEq]
 refine vcall (dAdd ⟨3, 1, 2, [mkT 3 64 5]⟩ _ (tD 8) none 0 0 R21 (wr.mono h21) (RuleV.nil _)) ?_
 intro R22 r h22 hr
 rw [dsS] at hr
 obtain ⟨vs, rfl, ws⟩ := hr
 obtain ⟨aas, ccs, rfl, _, ffs⟩ := ws.form
 simp only [dvCells]
 try simp only [go_sem, ↓reduceIte, nQ1, nQ2, nQ3, nQ4, nQ5, nQ6, reduceCtorEq]
 refine vcall (dRestore ⟨3, 0, 2, [mkT 3 64 5]⟩ _ 0 R22 (wb.mono (RO.le_trans (RO.le_trans (RO.le_trans (RO.le_trans (RO.le_trans (RO.le_trans (RO.le_trans (RO.le_trans (RO.le_trans (RO.le_trans (RO.le_trans (RO.le_trans (RO.le_trans (RO.le_trans (RO.le_trans (RO.le_trans (RO.le_trans (RO.le_trans h4 h5) h6) h7) h8) h9) h10) h11) h12) h13) h14) h15) h16) h17) h18) h19) h20) h21) h22))) ?_
 intro R23 r h23 hr
 rw [dsR0] at hr
 subst hr
 try simp only [go_sem, ↓reduceIte, nQ1, nQ2, nQ3, nQ4, nQ5, nQ6, reduceCtorEq]
 refine vcall (dSync ⟨3, 1, 2, [mkT 3 64 5]⟩ ⟨4, 0, 3, [mkT 3 64 5, mkT 3 128 6]⟩ _ _ R23 (wr.mono (RO.le_trans (RO.le_trans h21 h22) h23)) (wd.mono (RO.le_trans (RO.le_trans (RO.le_trans (RO.le_trans (RO.le_trans (RO.le_trans (RO.le_trans (RO.le_trans (RO.le_trans (RO.le_trans (RO.le_trans (RO.le_trans (RO.le_trans (RO.le_trans h9 h10) h11) h12) h13) h14) h15) h16) h17) h18) h19) h20) h21) h22) h23))) ?_
 intro R24 r h24 hr
 rw [dsT] at hr
 obtain ⟨vt, rfl, wt⟩ := hr
 obtain ⟨aat, cct, rfl, _, fft⟩ := wt.form
 simp only [dvCells]
 try simp only [go_sem, ↓reduceIte, nQ1, nQ2, nQ3, nQ4, nQ5, nQ6, reduceCtorEq]
 refine vcall (dTimed 9 R24) ?_
 rintro R25 r h25 rfl
 try simp only [go_sem, ↓reduceIte, nQ1, nQ2, nQ3, nQ4, nQ5, nQ6, reduceCtorEq]
 refine vcall (dAdd ⟨3, 0, 1, []⟩ _ (tD 9) none 0 0 R25 (wa.mono (RO.le_trans (RO.le_trans (RO.le_trans (RO.le_trans (RO.le_trans (RO.le_trans (RO.le_trans (RO.le_trans (RO.le_trans (RO.le_trans (RO.le_trans (RO.le_trans (RO.le_trans (RO.le_trans (RO.le_trans (RO.le_trans (RO.le_trans (RO.le_trans (RO.le_trans (RO.le_trans (RO.le_trans (RO.le_trans (RO.le_trans h2 h3) h4) h5) h6) h7) h8) h9) h10) h11) h12) h13) h14) h15) h16) h17) h18) h19) h20) h21) h22) h23) h24) h25)) (RuleV.nil _)) ?_
 intro R26 r h26 hr
 rw [dsW] at hr
 obtain ⟨vw, rfl, ww⟩ := hr
 obtain ⟨aaw, ccw, rfl, _, ffw⟩ := ww.form
 simp only [dvCells]
 try simp only [go_sem, ↓reduceIte, nQ1, nQ2, nQ3, nQ4, nQ5, nQ6, reduceCtorEq]
 refine vcall (dSync ⟨3, 0, 2, [mkT 3 64 9]⟩ ⟨3, 0, 2, [mkT 3 64 5]⟩ _ _ R26 ww (wb.mono (RO.le_trans (RO.le_trans (RO.le_trans (RO.le_trans (RO.le_trans (RO.le_trans (RO.le_trans (RO.le_trans (RO.le_trans (RO.le_trans (RO.le_trans (RO.le_trans (RO.le_trans (RO.le_trans (RO.le_trans (RO.le_trans (RO.le_trans (RO.le_trans (RO.le_trans (RO.le_trans (RO.le_trans (RO.le_trans h4 h5) h6) h7) h8) h9) h10) h11) h12) h13) h14) h15) h16) h17) h18) h19) h20) h21) h22) h23) h24) h25) h26))) ?_
 intro R27 r h27 hr
 rw [dsE] at hr
 subst hr
 try simp only [go_sem, ↓reduceIte, nQ1, nQ2, nQ3, nQ4, nQ5, nQ6, reduceCtorEq]
 refine vcall (dLacks ⟨3, 0, 2, [mkT 3 64 5]⟩ ⟨4, 0, 4, [mkT 3 64 5, mkT 3 128 6, mkT 4 192 7]⟩ _ _ R27 (wb.mono (RO.le_trans (RO.le_trans (RO.le_trans (RO.le_trans (RO.le_trans (RO.le_trans (RO.le_trans (RO.le_trans (RO.le_trans (RO.le_trans (RO.le_trans (RO.le_trans (RO.le_trans (RO.le_trans (RO.le_trans (RO.le_trans (RO.le_trans (RO.le_trans (RO.le_trans (RO.le_trans (RO.le_trans (RO.le_trans (RO.le_trans h4 h5) h6) h7) h8) h9) h10) h11) h12) h13) h14) h15) h16) h17) h18) h19) h20) h21) h22) h23) h24) h25) h26) h27)) (wx.mono (RO.le_trans (RO.le_trans (RO.le_trans (RO.le_trans (RO.le_trans (RO.le_trans (RO.le_trans (RO.le_trans (RO.le_trans (RO.le_trans (RO.le_trans (RO.le_trans (RO.le_trans (RO.le_trans (RO.le_trans (RO.le_trans h11 h12) h13) h14) h15) h16) h17) h18) h19) h20) h21) h22) h23) h24) h25) h26) h27))) ?_
 intro R28 r h28 wl
 rw [dsL] at wl
 obtain ⟨aal, ccl, rfl, _, ffl⟩ := wl.form
 try simp only [go_sem, ↓reduceIte, nQ1, nQ2, nQ3, nQ4, nQ5, nQ6, reduceCtorEq]
 refine vcall (dSeries ⟨.slice none 0 0, 0, 1, ⟨#[]⟩, 0, 0, .slice none 0 0⟩ [] [] ⟨3, 0, 3, [mkT 3 64 5, mkT 3 128 6]⟩ _ R28 (RuleV.nil _) (EncV.nil _ _ _) (wc.mono (RO.le_trans (RO.le_trans (RO.le_trans (RO.le_trans (RO.le_trans (RO.le_trans (RO.le_trans (RO.le_trans (RO.le_trans (RO.le_trans (RO.le_trans (RO.le_trans (RO.le_trans (RO.le_trans (RO.le_trans (RO.le_trans (RO.le_trans (RO.le_trans (RO.le_trans (RO.le_trans (RO.le_trans (RO.le_trans h6 h7) h8) h9) h10) h11) h12) h13) h14) h15) h16) h17) h18) h19) h20) h21) h22) h23) h24) h25) h26) h27) h28)) (by decide)) ?_
 intro R29 r h29 hr
 unfold SerV at hr
 rw [if_pos (by kernel_rfl)] at hr
 unfold MergeV at hr
 rw [dsAll] at hr
 dsimp only at hr
 rw [if_neg (by decide)] at hr
 obtain ⟨p, q, rfl, hp, hq⟩ := hr
 obtain ⟨ti, hti, htm⟩ := dsParts ⟨.slice none 0 0, 0, 1, ⟨#[]⟩, 0, 0, .slice none 0 0⟩
 rw [hti] at hp
 rw [dsRec] at hq
 obtain ⟨aaq, ccq, rfl, _, ffq⟩ := hq.form
 obtain ⟨cs, hpS, hpl, hpf, _⟩ := hp
 obtain ⟨aap, ccp, rfl, _, ffp⟩ := SlK.form hpS
 try simp only [go_sem, ↓reduceIte, nQ1, nQ2, nQ3, nQ4, nQ5, nQ6, reduceCtorEq]
 refine vfreeze ?_
 try simp only [go_sem, ↓reduceIte, nQ1, nQ2, nQ3, nQ4, nQ5, nQ6, reduceCtorEq]
 intro b30 k30 R30 h30 hrow30 hcap30 hfr30
 refine vcall (dSeqs ⟨3, 1, 2, [mkT 3 64 5]⟩ _ 2 _ [64] R30 (wr.mono (RO.le_trans (RO.le_trans (RO.le_trans (RO.le_trans (RO.le_trans (RO.le_trans (RO.le_trans (RO.le_trans (RO.le_trans h21 h22) h23) h24) h25) h26) h27) h28) h29) h30)) (RowIn.ints (xs := [64]) hrow30 (by simpa using hcap30))) ?_
 rintro R31 r h31 rfl
 rw [decide_eq_true (by exact ⟨rfl, rfl⟩)]
 try simp only [go_sem, ↓reduceIte, nQ1, nQ2, nQ3, nQ4, nQ5, nQ6, reduceCtorEq]
 refine vfreeze ?_
 try simp only [go_sem, ↓reduceIte, nQ1, nQ2, nQ3, nQ4, nQ5, nQ6, reduceCtorEq]
 intro b32 k32 R32 h32 hrow32 hcap32 hfr32
 refine vcall (dSeqs ⟨3, 1, 3, [mkT 3 64 5, mkT 3 129 8]⟩ _ 3 _ [64, 129] R32 (ws.mono (RO.le_trans (RO.le_trans (RO.le_trans (RO.le_trans (RO.le_trans (RO.le_trans (RO.le_trans (RO.le_trans (RO.le_trans h23 h24) h25) h26) h27) h28) h29) h30) h31) h32)) (RowIn.ints (xs := [64, 129]) hrow32 (by simpa using hcap32))) ?_
 rintro R33 r h33 rfl
 rw [decide_eq_true (by exact ⟨rfl, rfl⟩)]
 try simp only [go_sem, ↓reduceIte, nQ1, nQ2, nQ3, nQ4, nQ5, nQ6, reduceCtorEq]
 refine vfreeze ?_
 try simp only [go_sem, ↓reduceIte, nQ1, nQ2, nQ3, nQ4, nQ5, nQ6, reduceCtorEq]
 intro b34 k34 R34 h34 hrow34 hcap34 hfr34
 refine vcall (dSeqs ⟨3, 1, 3, [mkT 3 64 5, mkT 3 128 6]⟩ _ 3 _ [64, 128] R34 (wt.mono (RO.le_trans (RO.le_trans (RO.le_trans (RO.le_trans (RO.le_trans (RO.le_trans (RO.le_trans (RO.le_trans (RO.le_trans h25 h26) h27) h28) h29) h30) h31) h32) h33) h34)) (RowIn.ints (xs := [64, 128]) hrow34 (by simpa using hcap34))) ?_
 rintro R35 r h35 rfl
 rw [decide_eq_true (by exact ⟨rfl, rfl⟩)]
 try simp only [go_sem, ↓reduceIte, nQ1, nQ2, nQ3, nQ4, nQ5, nQ6, reduceCtorEq]
 have hcl : cs.length = 1 := hpl
 rw [hcl]
 try simp only [go_sem, ↓reduceIte, nQ1, nQ2, nQ3, nQ4, nQ5, nQ6, reduceCtorEq, iQ1, iQ2, iQ3, iQ4, iQ5, iQ6]
 obtain ⟨ad3530, ra35, rn35, rc35, had3530, hR3530, _⟩ := ffl 0 (by decide)
 try simp only [go_sem, ↓reduceIte, nQ1, nQ2, nQ3, nQ4, nQ5, nQ6, reduceCtorEq, iQ1, iQ2, iQ3, iQ4, iQ5, iQ6]
 first | refine vat ad3530 had3530 ?_ | refine ⟨by decide, vat ad3530 had3530 ?_⟩ | refine ⟨by decide, by decide, vat ad3530 had3530 ?_⟩
 try simp only [go_sem, ↓reduceIte, nQ1, nQ2, nQ3, nQ4, nQ5, nQ6, reduceCtorEq, iQ1, iQ2, iQ3, iQ4, iQ5, iQ6]
 refine vload (.int .i64 128) ((RO.le_trans (RO.le_trans (RO.le_trans (RO.le_trans (RO.le_trans (RO.le_trans h29 h30) h31) h32) h33) h34) h35) _ _ (hR3530 3 _ rfl)) ?_
 try simp only [go_sem, ↓reduceIte, nQ1, nQ2, nQ3, nQ4, nQ5, nQ6, reduceCtorEq, iQ1, iQ2, iQ3, iQ4, iQ5, iQ6]
 obtain ⟨ad3521, ra35, rn35, rc35, had3521, hR3521, _⟩ := ffl 1 (by decide)
 try simp only [go_sem, ↓reduceIte, nQ1, nQ2, nQ3, nQ4, nQ5, nQ6, reduceCtorEq, iQ1, iQ2, iQ3, iQ4, iQ5, iQ6]
 first | refine vat ad3521 had3521 ?_ | refine ⟨by decide, vat ad3521 had3521 ?_⟩ | refine ⟨by decide, by decide, vat ad3521 had3521 ?_⟩
 try simp only [go_sem, ↓reduceIte, nQ1, nQ2, nQ3, nQ4, nQ5, nQ6, reduceCtorEq, iQ1, iQ2, iQ3, iQ4, iQ5, iQ6]
 refine vload (.int .i64 4) ((RO.le_trans (RO.le_trans (RO.le_trans (RO.le_trans (RO.le_trans (RO.le_trans h29 h30) h31) h32) h33) h34) h35) _ _ (hR3521 2 _ rfl)) ?_
 try simp only [go_sem, ↓reduceIte, nQ1, nQ2, nQ3, nQ4, nQ5, nQ6, reduceCtorEq, iQ1, iQ2, iQ3, iQ4, iQ5, iQ6]
 obtain ⟨_, adp, hadp, hRp⟩ := ffp 0 (by omega)
 obtain ⟨rvp, mvp, hcp, _, _⟩ := hpf 0 _ _ (List.getElem?_eq_getElem (by omega)) rfl
 rw [hcp] at hRp
 try simp only [go_sem, ↓reduceIte, nQ1, nQ2, nQ3, nQ4, nQ5, nQ6, reduceCtorEq, iQ1, iQ2, iQ3, iQ4, iQ5, iQ6]
 first | refine vat adp hadp ?_ | refine ⟨by decide, vat adp hadp ?_⟩
 try simp only [go_sem, ↓reduceIte, nQ1, nQ2, nQ3, nQ4, nQ5, nQ6, reduceCtorEq, iQ1, iQ2, iQ3, iQ4, iQ5, iQ6]
 refine vload (.int .i64 6) ((RO.le_trans (RO.le_trans (RO.le_trans (RO.le_trans (RO.le_trans h30 h31) h32) h33) h34) h35) _ _ (hRp 2 _ (by rw [← htm]; rfl))) ?_
 try simp only [go_sem, ↓reduceIte, nQ1, nQ2, nQ3, nQ4, nQ5, nQ6, reduceCtorEq, iQ1, iQ2, iQ3, iQ4, iQ5, iQ6]
 obtain ⟨adq, hadq, hRq⟩ := ffq 0 (by decide)
 first | refine vat adq hadq ?_ | refine ⟨by decide, vat adq hadq ?_⟩
 try simp only [go_sem, ↓reduceIte, nQ1, nQ2, nQ3, nQ4, nQ5, nQ6, reduceCtorEq, iQ1, iQ2, iQ3, iQ4, iQ5, iQ6]
 refine vloadn (Ov.cells ⟨3, 64, 3, 128⟩) rfl (fun j u hj => (RO.le_trans (RO.le_trans (RO.le_trans (RO.le_trans (RO.le_trans h30 h31) h32) h33) h34) h35) _ _ (hRq j u hj)) ?_
 simp only [Ov.cells]
 try simp only [go_sem, ↓reduceIte, nQ1, nQ2, nQ3, nQ4, nQ5, nQ6, reduceCtorEq, iQ1, iQ2, iQ3, iQ4, iQ5, iQ6]
end Go.Proofs.YtcjdbfnnbejmeaaGreat
namespace Go.Proofs.YtcjdbfnnbejmeaaGreat
set_option linter.unusedSimpArgs false
set_option linter.unusedVariables false
open Go.Proofs.YtcjdbfnnbejmeaaGreat.Vc
/-! ### Worlds -/
structure Wd where
 n0 : Dv
 n1 : Dv
 n2 : Dv
 c0 : Dv
 c1 : Dv
 c2 : Dv
 e0 : Int
 e1 : Int
 e2 : Int
 deriving DecidableEq
def Wd.now (w : Wd) : Nat → Dv
 | 0 => w.n0
 | 1 => w.n1
 | _ => w.n2
def Wd.copy (w : Wd) : Nat → Dv
 | 0 => w.c0
 | 1 => w.c1
 | _ => w.c2
def Wd.ep (w : Wd) : Nat → Int
 | 0 => w.e0
 | 1 => w.e1
 | _ => w.e2
structure Opn where
 kind : Int
 a : Int
 b : Int
 ed : Ed
def Opn.ok (o : Opn) : Prop := (0 ≤ o.kind ∧ o.kind ≤ 255) ∧ (0 ≤ o.a ∧ o.a ≤ 255) ∧ 0 ≤ o.b ∧ o.b ≤ 255
def Opn.cells (o : Opn) : List Value := [.int .u8 o.kind, .int .u8 o.a, .int .u8 o.b] ++ o.ed.cells
def Opn.i (o : Opn) : Nat := (o.a % 3).toNat
def Opn.k (o : Opn) : Nat := (o.b % 3).toNat
def wdCells (w : Wd) (x0 x1 x2 y0 y1 y2 : Value) : List Value := [.int .i64 w.n0.id, .int .i64 w.n0.epoch, .int .i64 w.n0.next, x0, .int .i64 w.n1.id, .int .i64 w.n1.epoch, .int .i64 w.n1.next, x1, .int .i64 w.n2.id, .int .i64 w.n2.epoch, .int .i64 w.n2.next, x2,
 .int .i64 w.c0.id, .int .i64 w.c0.epoch, .int .i64 w.c0.next, y0, .int .i64 w.c1.id, .int .i64 w.c1.epoch, .int .i64 w.c1.next, y1, .int .i64 w.c2.id, .int .i64 w.c2.epoch, .int .i64 w.c2.next, y2, .int .i64 w.e0, .int .i64 w.e1, .int .i64 w.e2]
def WdV (R : RO) (r : Value) (w : Wd) : Prop := ∃ x0 x1 x2 y0 y1 y2, r = .agg (wdCells w x0 x1 x2 y0 y1 y2).toArray ∧ EdsV R x0 w.n0.edits ∧ EdsV R x1 w.n1.edits ∧ EdsV R x2 w.n2.edits ∧ EdsV R y0 w.c0.edits ∧ EdsV R y1 w.c1.edits ∧ EdsV R y2 w.c2.edits
theorem WdV.mono {R R' : RO} {r : Value} {w : Wd} (h : WdV R r w) (hle : RO.le R R') : WdV R' r w := by
 obtain ⟨x0, x1, x2, y0, y1, y2, e, h0, h1, h2, h3, h4, h5⟩ := h
 exact ⟨x0, x1, x2, y0, y1, y2, e, h0.mono hle, h1.mono hle, h2.mono hle, h3.mono hle, h4.mono hle, h5.mono hle⟩
theorem DvR.shape {R : RO} {r : Value} {x : Except Int Dv} (h : DvR R r x) : (∃ k, x = .error k ∧ r = .tuple #[.agg #[.int .i64 0, .int .i64 0, .int .i64 0, .slice none 0 0], .int .i64 k]) ∨ ∃ d a c, x = .ok d ∧ r = .tuple #[.agg #[.int .i64 d.id, .int .i64 d.epoch, .int .i64 d.next, .slice a d.edits.length c], .int .i64 0] ∧ EdsV R (.slice a d.edits.length c) d.edits := by
 cases x with
 | error k => exact .inl ⟨k, rfl, h⟩
 | ok d =>
  obtain ⟨v, e, h⟩ := h
  obtain ⟨a, c, rfl, _⟩ := h.form
  exact .inr ⟨d, a, c, rfl, e, h⟩
end Go.Proofs.YtcjdbfnnbejmeaaGreat
namespace Go.Proofs.YtcjdbfnnbejmeaaGreat
set_option linter.unusedSimpArgs false
set_option linter.unusedVariables false
open Go.Proofs.YtcjdbfnnbejmeaaGreat.Vc
def EdC (R : RO) (v : Value) (es : List Ed) : Prop := SlK R v 13 (es.map Ed.cells)
theorem EdC.mono {R R' : RO} {v : Value} {es : List Ed} (h : EdC R v es) (hle : RO.le R R') : EdC R' v es := SlK.mono h hle
theorem EdC.form {R : RO} {v : Value} {es : List Ed} (h : EdC R v es) : ∃ a cap, v = .slice a es.length cap ∧ es.length ≤ cap ∧ ∀ i (hi : i < es.length), ∃ ad, a = some ad ∧ ∀ j u, ((es[i]).cells)[j]? = some u → R ((ad.add (i * 13)).add j) u := by
 obtain ⟨a, cap, rfl, hc, hf⟩ := SlK.form h
 rw [List.length_map] at hc
 refine ⟨a, cap, by rw [List.length_map], hc, fun i hi => ?_⟩
 obtain ⟨_, ad, ha, hR⟩ := hf i (by rw [List.length_map]; exact hi)
 rw [List.getElem_map] at hR
 exact ⟨ad, ha, hR⟩
end Go.Proofs.YtcjdbfnnbejmeaaGreat
namespace Go.Proofs.YtcjdbfnnbejmeaaGreat
set_option linter.unusedSimpArgs false
set_option linter.unusedVariables false
open Go.Proofs.YtcjdbfnnbejmeaaGreat.Vc
theorem PartsV.form {R : RO} {v : Value} {ps : List Pa} (h : PartsV R v ps) : ∃ a cap, v = .slice a ps.length cap ∧ ps.length ≤ cap ∧ ∀ i (hi : i < ps.length), ∃ ad ra rn rc ma mc, a = some ad ∧
  (∀ j u, (paCells (ps[i]).day ⟨.slice ra rn rc, (ps[i]).ti.minute, (ps[i]).ti.length, (ps[i]).ti.zone, (ps[i]).ti.gap, (ps[i]).ti.fold, .slice ma (ps[i]).moves.length mc⟩)[j]? = some u → R ((ad.add (i * 8)).add j) u) ∧ RuleV R (.slice ra rn rc) (ps[i]).ti.rule ∧ EncV Mv.cells 5 R (.slice ma (ps[i]).moves.length mc) (ps[i]).moves := by
 obtain ⟨cs, h1, h2, h3, h4⟩ := h
 obtain ⟨a, cap, rfl, hc, hf⟩ := SlK.form h1
 refine ⟨a, cap, by rw [h2], by omega, fun i hi => ?_⟩
 obtain ⟨_, ad, ha, hR⟩ := hf i (by omega)
 obtain ⟨rv, mv, e, g1, g2⟩ := h3 i _ _ (List.getElem?_eq_getElem (by omega)) (List.getElem?_eq_getElem hi)
 obtain ⟨ra, rn, rc, rfl⟩ := g1.form
 obtain ⟨ma, mc, rfl, _⟩ := g2.form
 rw [e] at hR
 exact ⟨ad, ra, rn, rc, ma, mc, ha, hR, g1, g2⟩
end Go.Proofs.YtcjdbfnnbejmeaaGreat
namespace Go.Proofs.YtcjdbfnnbejmeaaGreat
set_option linter.unusedSimpArgs false
set_option linter.unusedVariables false
open Go.Proofs.YtcjdbfnnbejmeaaGreat.Vc
theorem KeysD.eq {l : List De} (h : KeysD l) {a b : De} (ha : a ∈ l) (hb : b ∈ l) (hk : keyEq a b = true) : a = b := by
 induction l with
 | nil => simp at ha
 | cons x l ih =>
  have h' := List.pairwise_cons.1 h
  rcases List.mem_cons.1 ha with ea | ha
  ·rcases List.mem_cons.1 hb with eb | hb
   ·rw [ea, eb]
   ·rw [ea, h'.1 b hb] at hk; cases hk
  ·rcases List.mem_cons.1 hb with eb | hb
   ·rw [eb, keyEq_symm, h'.1 a ha] at hk; cases hk
   ·exact ih h'.2 ha hb
end Go.Proofs.YtcjdbfnnbejmeaaGreat
namespace Go.Proofs.YtcjdbfnnbejmeaaGreat
set_option linter.unusedSimpArgs false
set_option linter.unusedVariables false
open Go.Proofs.YtcjdbfnnbejmeaaGreat.Vc
theorem nodup_len : ∀ (l M : List De), l.Pairwise (· ≠ ·) → (∀ x ∈ l, x ∈ M) → l.length ≤ M.length
 | [], _, _, _ => Nat.zero_le _
 | x :: l, M, hp, hs => by
  have hp' := List.pairwise_cons.1 hp
  have h1 := nodup_len l (M.erase x) hp'.2 fun y hy => (List.mem_erase_of_ne (hp'.1 y hy).symm).2 (hs y (by simp [hy]))
  have h2 := List.length_erase_of_mem (hs x (by simp))
  have h3 := List.length_pos_of_mem (hs x (by simp))
  rw [List.length_cons]; omega
theorem SortedD.ne {l : List De} (h : SortedD l) : l.Pairwise (· ≠ ·) := h.imp fun {a b} hab e => by subst e; rw [lessD_irrefl] at hab; cases hab
theorem SortedD.len {l M : List De} (h : SortedD l) (hs : ∀ x ∈ l, x ∈ M) : l.length ≤ M.length := nodup_len l M h.ne hs
structure Inv (n : Nat) (M : List De) (w : Wd) : Prop where
 id : ∀ i : Nat, i < 3 → (w.now i).id = 2 + 3 * (i : Int) ∧ (w.copy i).id = 2 + 3 * (i : Int)
 ep : ∀ i : Nat, i < 3 → (w.now i).epoch = w.ep i ∧ (w.copy i).epoch ≤ w.ep i ∧ 0 ≤ w.ep i ∧ w.ep i ≤ n
 val : ∀ i : Nat, i < 3 → validV (w.now i) = true ∧ validV (w.copy i) = true
 nxt : ∀ i : Nat, i < 3 → (w.now i).next ≤ 1 + n ∧ (w.copy i).next ≤ 1 + n
 sub : ∀ i : Nat, i < 3 → (∀ e ∈ (w.now i).edits, e ∈ M) ∧ ∀ e ∈ (w.copy i).edits, e ∈ M
 len : M.length ≤ n
 key : ∀ a ∈ M, ∀ b ∈ M, keyEq a b = true → a = b
 vd : ∀ a ∈ M, validD a = true
 fresh : ∀ i : Nat, i < 3 → ∀ m ∈ M, m.device = 2 + 3 * (i : Int) → m.seq % 64 ≤ w.ep i ∧ (m.seq % 64 = w.ep i → m.seq / 64 < (w.now i).next)
end Go.Proofs.YtcjdbfnnbejmeaaGreat
namespace Go.Proofs.YtcjdbfnnbejmeaaGreat
set_option linter.unusedSimpArgs false
set_option linter.unusedVariables false
open Go.Proofs.YtcjdbfnnbejmeaaGreat.Vc
theorem Inv.shape {n : Nat} {M : List De} {w : Wd} (h : Inv n M w) {i : Nat} (hi : i < 3) : (w.now i).edits.length ≤ n :=
 Nat.le_trans ((validV_all (h.val i hi).1).2.len (h.sub i hi).1) h.len
end Go.Proofs.YtcjdbfnnbejmeaaGreat
namespace Go.Proofs.YtcjdbfnnbejmeaaGreat
set_option linter.unusedSimpArgs false
set_option linter.unusedVariables false
open Go.Proofs.YtcjdbfnnbejmeaaGreat.Vc
def OpC (R : RO) (v : Value) (os : List Opn) : Prop := SlK R v 16 (os.map Opn.cells) ∧ (∀ o ∈ os, o.ok) ∧ os.length ≤ 1099511627776
theorem OpC.mono {R R' : RO} {v : Value} {os : List Opn} (h : OpC R v os) (hle : RO.le R R') : OpC R' v os := ⟨SlK.mono h.1 hle, h.2⟩
theorem OpC.form {R : RO} {v : Value} {os : List Opn} (h : OpC R v os) : ∃ a cap, v = .slice a os.length cap ∧ os.length ≤ cap ∧ ∀ i (hi : i < os.length), ∃ ad, a = some ad ∧ ∀ j u, ((os[i]).cells)[j]? = some u → R ((ad.add (i * 16)).add j) u := by
 obtain ⟨a, cap, rfl, hc, hf⟩ := SlK.form h.1
 rw [List.length_map] at hc
 refine ⟨a, cap, by rw [List.length_map], hc, fun i hi => ?_⟩
 obtain ⟨_, ad, ha, hR⟩ := hf i (by rw [List.length_map]; exact hi)
 rw [List.getElem_map] at hR
 exact ⟨ad, ha, hR⟩
def boxc (l : List Value) : List SV := l.map .val
theorem boxc_ok (l : List Value) (n : Nat) : (boxc l).all (SV.ok n) = true := by
 unfold boxc
 rw [List.all_map, List.all_eq_true]
 intro _ _
 rfl
end Go.Proofs.YtcjdbfnnbejmeaaGreat
namespace Go.Proofs.YtcjdbfnnbejmeaaGreat
set_option linter.unusedSimpArgs false
set_option linter.unusedVariables false
open Go.Proofs.YtcjdbfnnbejmeaaGreat.Vc
end Go.Proofs.YtcjdbfnnbejmeaaGreat
