/- Lemmas of our own, no statement of the seat; the last one of the claim's texts proves the law. -/
import Derived.Test.YtclkibjonbhldaaGreatDoorBse
open Nat renaming reduceEqDiff → nQ1, reduceAdd → nQ2, reduceMul → nQ3, reduceLeDiff → nQ4, reduceLT → nQ5, reduceBNe → nQ6
open Int renaming reduceLE → iQ1, reduceLT → iQ2, reduceToNat → iQ3, cast_ofNat_Int → iQ4, reduceEq → iQ5, reduceNe → iQ6
/- Plain lemmas of our own, no statement of the seat: the reference's Total, KnownBy, Check, Known. -/
namespace Go.Proofs.YtclkibjonbhldaaGreatDoor
set_option linter.unusedSimpArgs false
set_option linter.unusedVariables false
open Go.Proofs.YtclkibjonbhldaaGreatDoor.Vc
theorem totalD_take (g : Int) (l : List Se) (i : Nat) (hi : i < l.length) : totalD g (l.take (i + 1)) = totalD g (l.take i) + termD g l[i] := by
 rw [List.take_succ_eq_append_getElem hi, totalD_app]; simp [totalD]
set_option maxHeartbeats 1000000 in
theorem rTotal (b : Bu) (hB : OkB b) (hr : RawB b) (g : Int) (v : Value) (R : RO) (h : BuV R v b) : CallsR Tryz.prog 22 [v, .int .i64 g] R fun _ r => r = .int .i64 (totalD g b.spent) := by
 obtain ⟨gv, sv, rfl, hg, hs⟩ := h
 obtain ⟨hsl, a, cap, rfl, hc, hf⟩ := hs.form
 have hC := hB.okC hr
 have hbl := hr.len
 have hbd : ∀ i, 0 ≤ totalD g (b.spent.take i) ∧ totalD g (b.spent.take i) ≤ 4503599627370496 * 1000 := fun i => by
  have := totalD_bd (g := g) (l := b.spent.take i) fun s hs => hC s (List.mem_of_mem_take hs)
  rw [List.length_take] at this
  omega
 refine callsT mix Tryz.func22 comp22 (by simp [Tryz.ntmps22]) ?_; simp only [go_sem, ↓reduceIte, nQ1, nQ2, nQ3, nQ4, nQ5, nQ6, reduceCtorEq, vc22, rs22]
 refine vcLoop Nat (fun i => [(6, .val (.int .i64 i)), (5, .val (.int .i64 (totalD g (b.spent.take i)))), (2, .loc 0 0), (1, .val (.int .i64 g))]) (fun _ => [.box [.val (.int .i64 b.limit), .val gv, .val (.slice a b.spent.length cap)]]) (fun i _ => i ≤ b.spent.length) (fun i => b.spent.length - i) 0 ?_ ?_ ?_ ?_
 ·(try simp only [go_sem, ↓reduceIte, nQ1, nQ2, nQ3, nQ4, nQ5, nQ6, reduceCtorEq]) <;> (repeat' (first | rfl | trivial | constructor | (intro h; exact absurd rfl h)))
 ·try simp only [go_sem, ↓reduceIte, nQ1, nQ2, nQ3, nQ4, nQ5, nQ6, reduceCtorEq]
 ·exact Nat.zero_le _
 rintro i env R1 hle1 hE hi
 (simp only [go_sem] at hE; obtain ⟨e6, e5, e2, e1⟩ := hE; simp only [go_sem, ↓reduceIte, nQ1, nQ2, nQ3, nQ4, nQ5, nQ6, reduceCtorEq, e6, e5, e2, e1]; dsimp only at *)
 refine ⟨fun hlt => ?_, fun hge => ?_⟩
 ·have hlt' : i < b.spent.length := by omega
  obtain ⟨ad, u, had, hR, hu⟩ := hf i hlt'
  obtain ⟨uxl, ua, ucap, rfl, huc, huf⟩ : _ ∧ ∃ ua ucap, u = .slice ua b.spent[i].cells.length ucap ∧ _ := ⟨hu.2, hu.form⟩
  have hCi := hC _ (List.getElem_mem hlt')
  have htk := totalD_take g b.spent i hlt'
  have hb0 := hbd i
  have hb1 := hbd (i + 1)
  refine ⟨by omega, vat ad had ?_⟩
  try simp only [go_sem, ↓reduceIte, nQ1, nQ2, nQ3, nQ4, nQ5, nQ6, reduceCtorEq]
  refine vload (.int .i64 b.spent[i].group) (hle1 _ _ (hR 0 _ rfl)) ?_
  simp only [go_sem, ↓reduceIte, nQ1, nQ2, nQ3, nQ4, nQ5, nQ6, reduceCtorEq, e6, e5, e2, e1]
  refine ⟨fun hne => ⟨_, W.in64 (by omega), i + 1, by omega, ?_, by omega⟩, fun heq => ?_⟩
  ·unfold termD at htk
   rw [if_neg hne, Int.add_zero] at htk
   rw [htk]
   try simp only [go_sem, ↓reduceIte, nQ1, nQ2, nQ3, nQ4, nQ5, nQ6, reduceCtorEq]
   rfl
  ·unfold termD at htk
   rw [if_pos heq] at htk
   refine vcLoop Nat (fun k => [(7, .val (.int .i64 k)), (6, .val (.int .i64 i)), (5, .val (.int .i64 (totalD g (b.spent.take i) + countL (sizeI b.spent[i].grain) (b.spent[i].cells.take k)))), (2, .loc 0 0), (1, .val (.int .i64 g))]) (fun _ => [.box [.val (.int .i64 b.limit), .val gv, .val (.slice a b.spent.length cap)]]) (fun k _ => k ≤ b.spent[i].cells.length) (fun k => b.spent[i].cells.length - k) 0 ?_ ?_ ?_ ?_
   ·simp only [List.take_zero, countL, Int.add_zero]
    (try simp only [go_sem, ↓reduceIte, nQ1, nQ2, nQ3, nQ4, nQ5, nQ6, reduceCtorEq]) <;> (repeat' (first | rfl | trivial | constructor | (intro h; exact absurd rfl h)))
   ·try simp only [go_sem, ↓reduceIte, nQ1, nQ2, nQ3, nQ4, nQ5, nQ6, reduceCtorEq]
   ·exact Nat.zero_le _
   rintro k env R2 hle2 hE hk
   (simp only [go_sem] at hE; obtain ⟨e7, e6', e5', e2', e1'⟩ := hE; simp only [go_sem, ↓reduceIte, nQ1, nQ2, nQ3, nQ4, nQ5, nQ6, reduceCtorEq, e7, e6', e5', e2', e1']; dsimp only at *)
   have hle12 := RO.le_trans hle1 hle2
   have hl2 : ∀ {kk : SV → Prop} {t : Tok kk} {bb : List Blk}, kk (.val (.slice ua b.spent[i].cells.length ucap)) → LoadP (allR bb R2) ((ad.add (i * 3)).add 2) kk t := fun hk => vload _ (hle12 _ _ (hR 2 _ rfl)) hk
   refine ⟨by omega, vat ad had ?_⟩
   try simp only [go_sem, ↓reduceIte, nQ1, nQ2, nQ3, nQ4, nQ5, nQ6, reduceCtorEq]
   refine hl2 ?_
   simp only [go_sem, ↓reduceIte, nQ1, nQ2, nQ3, nQ4, nQ5, nQ6, reduceCtorEq, e7, e6', e5', e2', e1']
   refine ⟨fun hlt2 => ?_, fun hge2 => ?_⟩
   ·have hlt3 : k < b.spent[i].cells.length := by omega
    obtain ⟨ad2, had2, hR2⟩ := huf k hlt3
    have hm : b.spent[i].cells[k] ∈ b.spent[i].cells := List.getElem_mem hlt3
    have hp := hCi.nor.pos _ hm
    have hrg := rangedB_iff.1 hCi.rng _ hm
    have c1 := countL_range (sizeI_one b.spent[i].grain).1 hCi.nor hCi.rng k
    have c3 := countL_range (sizeI_one b.spent[i].grain).1 hCi.nor hCi.rng (k + 1)
    have c2 := ediv_le_self' (a := b.spent[i].cells[k].t - b.spent[i].cells[k].f) (n := sizeI b.spent[i].grain) (by omega) (sizeI_one _).1
    have hz := sizeI_pos b.spent[i].grain
    have htc : countL (sizeI b.spent[i].grain) (b.spent[i].cells.take (k + 1)) = countL (sizeI b.spent[i].grain) (b.spent[i].cells.take k) + (b.spent[i].cells[k].t - b.spent[i].cells[k].f) / sizeI b.spent[i].grain := by
     rw [List.take_succ_eq_append_getElem hlt3, countL_app]; simp [countL]
    refine ⟨by omega, vat ad had ?_⟩
    try simp only [go_sem, ↓reduceIte, nQ1, nQ2, nQ3, nQ4, nQ5, nQ6, reduceCtorEq]
    refine hl2 ?_
    simp only [go_sem, ↓reduceIte, nQ1, nQ2, nQ3, nQ4, nQ5, nQ6, reduceCtorEq, e7, e6', e5', e2', e1']
    refine ⟨by omega, vat ad2 had2 ?_⟩
    try simp only [go_sem, ↓reduceIte, nQ1, nQ2, nQ3, nQ4, nQ5, nQ6, reduceCtorEq]
    refine vload (.int .i64 b.spent[i].cells[k].t) (hle12 _ _ (hR2 1 _ rfl)) ?_
    simp only [go_sem, ↓reduceIte, nQ1, nQ2, nQ3, nQ4, nQ5, nQ6, reduceCtorEq, e7, e6', e5', e2', e1']
    refine ⟨by omega, vat ad had ?_⟩
    try simp only [go_sem, ↓reduceIte, nQ1, nQ2, nQ3, nQ4, nQ5, nQ6, reduceCtorEq]
    refine hl2 ?_
    simp only [go_sem, ↓reduceIte, nQ1, nQ2, nQ3, nQ4, nQ5, nQ6, reduceCtorEq, e7, e6', e5', e2', e1']
    refine ⟨by omega, vat ad2 had2 ?_⟩
    try simp only [go_sem, ↓reduceIte, nQ1, nQ2, nQ3, nQ4, nQ5, nQ6, reduceCtorEq]
    refine vload (.int .i64 b.spent[i].cells[k].f) (hle12 _ _ (hR2 0 _ rfl)) ?_
    simp only [go_sem, ↓reduceIte, nQ1, nQ2, nQ3, nQ4, nQ5, nQ6, reduceCtorEq, e7, e6', e5', e2', e1']
    refine ⟨_, W.in64 (by omega), by omega, vat ad had ?_⟩
    try simp only [go_sem, ↓reduceIte, nQ1, nQ2, nQ3, nQ4, nQ5, nQ6, reduceCtorEq]
    refine vload (.int .i64 b.spent[i].grain) (hle12 _ _ (hR 1 _ rfl)) ?_
    simp only [go_sem, ↓reduceIte, nQ1, nQ2, nQ3, nQ4, nQ5, nQ6, reduceCtorEq, e7, e6', e5', e2', e1']
    refine vcall (rSize b.spent[i].grain R2) ?_
    rintro R3 r hle3 rfl
    simp only [go_sem, ↓reduceIte, nQ1, nQ2, nQ3, nQ4, nQ5, nQ6, reduceCtorEq, e7, e6', e5', e2', e1']
    rw [tdiv_nonneg' (by omega) (by omega)]
    refine ⟨by omega, _, W.in64 (by omega), _, W.in64 (by omega), _, W.in64 (by omega), k + 1, by omega, ?_, by omega⟩
    rw [htc]
    exact ⟨rfl, by rw [Int.add_assoc]⟩
   ·obtain rfl : k = b.spent[i].cells.length := by omega
    refine ⟨_, W.in64 (by omega), i + 1, by omega, ?_, by omega⟩
    rw [htk, List.take_length]
    exact ⟨rfl, rfl⟩
 ·obtain rfl : i = b.spent.length := by omega
  rw [List.take_length]
theorem CombN {R : RO} {r : Value} {k : Int} {xs ys : List Sp} (h : ∃ zs, SpV R r zs ∧ Normal zs ∧ (∀ t, memS zs t = opB k (memS xs t) (memS ys t)) ∧ zs.length ≤ 2 * (xs.length + ys.length)) (hk : k = 0) : SpV R r (unionD xs ys) := by
 obtain ⟨zs, h1, h2, h3, _⟩ := h
 subst hk
 rw [h2.eq_unionD h3] at h1
 exact h1
def gathD (l : List Se) (g k : Int) : List Sp := (l.filter fun s => decide (s.group = g ∧ k ≤ s.grain)).flatMap (·.cells)
theorem gathD_mem (l : List Se) (g k t : Int) : memS (gathD l g k) t = true ↔ ∃ s ∈ l, s.group = g ∧ k ≤ s.grain ∧ memS s.cells t = true := by
 unfold gathD
 rw [memS_iff]
 constructor
 ·rintro ⟨x, hx, h1⟩
  obtain ⟨s, hs, hx⟩ := List.mem_flatMap.1 hx
  obtain ⟨h2, h3⟩ := List.mem_filter.1 hs
  simp only [decide_eq_true_eq] at h3
  exact ⟨s, h2, h3.1, h3.2, memS_iff.2 ⟨x, hx, h1⟩⟩
 ·rintro ⟨s, hs, h1, h2, h3⟩
  obtain ⟨x, hx, h4⟩ := memS_iff.1 h3
  exact ⟨x, List.mem_flatMap.2 ⟨s, List.mem_filter.2 ⟨hs, by simp [h1, h2]⟩, hx⟩, h4⟩
theorem knownL_mem (l : List Se) (g k t : Int) : ∀ n, memS (knownL l g k n) t = true ↔ ∃ j : Nat, j < n ∧ view l g (k + j) t = true
 | 0 => by simp [knownL, memS_nil]
 | n + 1 => by
  rw [knownL_succ, memS_app, Bool.or_eq_true, knownL_mem l g k t n]
  constructor
  ·rintro (⟨j, hj, h⟩ | h)
   ·exact ⟨j, by omega, h⟩
   ·exact ⟨n, by omega, h⟩
  ·rintro ⟨j, hj, h⟩
   by_cases e : j = n
   ·subst e; exact .inr h
   ·exact .inl ⟨j, by omega, h⟩
theorem known_mem {l : List Se} (hn : (l.map seKey).Nodup) (hg : ∀ s ∈ l, 1 ≤ s.grain ∧ s.grain ≤ 4) (g k t : Int) : memS (knownD l g k) t = true ↔ ∃ s ∈ l, s.group = g ∧ k ≤ s.grain ∧ memS s.cells t = true := by
 unfold knownD
 rw [normD_mem, knownL_mem]
 constructor
 ·rintro ⟨j, hj, h⟩
  rw [view_any hn] at h
  unfold anyV at h
  rw [List.any_eq_true] at h
  obtain ⟨s, hs, h⟩ := h
  simp only [Bool.and_eq_true, decide_eq_true_eq, seKey, Prod.mk.injEq] at h
  exact ⟨s, hs, h.1.1, by omega, h.2⟩
 ·rintro ⟨s, hs, h1, h2, h3⟩
  have := hg s hs
  refine ⟨(s.grain - k).toNat, by omega, ?_⟩
  rw [view_any hn]
  unfold anyV
  rw [List.any_eq_true]
  refine ⟨s, hs, ?_⟩
  simp only [Bool.and_eq_true, decide_eq_true_eq, seKey, Prod.mk.injEq]
  exact ⟨⟨h1, by omega⟩, h3⟩
theorem gath_known {l : List Se} (hn : (l.map seKey).Nodup) (hg : ∀ s ∈ l, 1 ≤ s.grain ∧ s.grain ≤ 4) (g k : Int) : normD (gathD l g k) = knownD l g k := by
 symm
 refine (show Normal (knownD l g k) from normD_normal _).eq_normD fun t => ?_
 rw [Bool.eq_iff_iff, known_mem hn hg, gathD_mem]
theorem OkB.grains {b : Bu} (h : OkB b) : ∀ s ∈ b.spent, 1 ≤ s.grain ∧ s.grain ≤ 4 := fun s hs => (h.each s hs).grain
theorem gath_snoc (l : List Se) (s : Se) (g k : Int) : gathD (l ++ [s]) g k = gathD l g k ++ (if s.group = g ∧ k ≤ s.grain then s.cells else []) := by
 unfold gathD
 rw [List.filter_append, List.flatMap_append]
 congr 1
 split <;> rename_i h <;> simp [h]
theorem gath_len (l : List Se) (g k : Int) (hl : ∀ s ∈ l, s.cells.length ≤ 1000) : (gathD l g k).length ≤ 1000 * l.length := by
 induction l with
 | nil => simp [gathD]
 | cons s l ih =>
  have h1 := ih fun x hx => hl x (List.mem_cons_of_mem _ hx)
  have h2 := hl s (by simp)
  unfold gathD at h1 ⊢
  rw [List.filter_cons]
  split
  ·rw [List.flatMap_cons, List.length_append, List.length_cons]; omega
  ·rw [List.length_cons]; omega
set_option maxHeartbeats 1000000 in
theorem rKnownBy (b : Bu) (hB : OkB b) (hr : RawB b) (g k : Int) (v : Value) (R : RO) (h : BuV R v b) : CallsR Tryz.prog 61 [v, .int .i64 g, .int .i64 k] R fun R' r => SpV R' r (knownD b.spent g k) := by
 obtain ⟨gv, sv, rfl, hg, hs⟩ := h
 obtain ⟨hsl, a, cap, rfl, hc, hf⟩ := hs.form
 have hbl := hr.len
 have hgl : ∀ i, (gathD (b.spent.take i) g k).length ≤ 1000000 := fun i => by
  have h1 := gath_len (b.spent.take i) g k fun s hs => (hr.spent s (List.mem_of_mem_take hs)).len
  rw [List.length_take] at h1
  have : min i b.spent.length ≤ 1000 := by omega
  have : 1000 * min i b.spent.length ≤ 1000 * 1000 := Nat.mul_le_mul_left _ this
  omega
 refine callsT mix Tryz.func61 comp61 (by simp [Tryz.ntmps61]) ?_; simp only [go_sem, ↓reduceIte, nQ1, nQ2, nQ3, nQ4, nQ5, nQ6, reduceCtorEq, vc61, rs61]
 refine vcLoopR Nat (fun i => [(8, .val (.int .i64 i)), (7, .sl 1 (gathD (b.spent.take i) g k).length), (3, .loc 0 0), (1, .val (.int .i64 g)), (2, .val (.int .i64 k))]) (fun i => [.box [.val (.int .i64 b.limit), .val gv, .val (.slice a b.spent.length cap)], .row 32 2 (rowS (gathD (b.spent.take i) g k))]) (fun i _ => i ≤ b.spent.length) (fun i => b.spent.length - i) 0 [] ?_ ?_ ?_ ?_
 ·have h0 : gathD (b.spent.take 0) g k = [] := rfl
  rw [h0]
  (try simp only [go_sem, ↓reduceIte, nQ1, nQ2, nQ3, nQ4, nQ5, nQ6, reduceCtorEq]) <;> (repeat' (first | rfl | trivial | constructor | (intro h; exact absurd rfl h)))
 ·try simp only [go_sem, ↓reduceIte, nQ1, nQ2, nQ3, nQ4, nQ5, nQ6, reduceCtorEq]
 ·exact Nat.zero_le _
 rintro i env R1 hle1 hE hi
 (simp only [go_sem] at hE; obtain ⟨e8, e7, e3, e1, e2⟩ := hE; simp only [go_sem, ↓reduceIte, nQ1, nQ2, nQ3, nQ4, nQ5, nQ6, reduceCtorEq, e8, e7, e3, e1, e2]; dsimp only at *)
 refine ⟨fun hlt => ?_, fun hge => ?_⟩
 ·have hlt' : i < b.spent.length := by omega
  obtain ⟨ad, u, had, hR, hu⟩ := hf i hlt'
  have hsn : gathD (b.spent.take (i + 1)) g k = gathD (b.spent.take i) g k ++ (if b.spent[i].group = g ∧ k ≤ b.spent[i].grain then b.spent[i].cells else []) := by
   rw [List.take_succ_eq_append_getElem hlt', gath_snoc]
  have hl0 := hgl i
  have hl1 := hgl (i + 1)
  refine ⟨by omega, vat ad had ?_⟩
  try simp only [go_sem, ↓reduceIte, nQ1, nQ2, nQ3, nQ4, nQ5, nQ6, reduceCtorEq]
  refine vload (.int .i64 b.spent[i].group) (hle1 _ _ (hR 0 _ rfl)) ?_
  simp only [go_sem, ↓reduceIte, nQ1, nQ2, nQ3, nQ4, nQ5, nQ6, reduceCtorEq, e8, e7, e3, e1, e2]
  refine ⟨fun hg1 => ⟨by omega, vat ad had ?_⟩, fun hg1 => ⟨_, W.in64 (by omega), i + 1, [], by omega, ?_, by decide, by omega⟩⟩
  ·try simp only [go_sem, ↓reduceIte, nQ1, nQ2, nQ3, nQ4, nQ5, nQ6, reduceCtorEq]
   refine vload (.int .i64 b.spent[i].grain) (hle1 _ _ (hR 1 _ rfl)) ?_
   simp only [go_sem, ↓reduceIte, nQ1, nQ2, nQ3, nQ4, nQ5, nQ6, reduceCtorEq, e8, e7, e3, e1, e2]
   refine ⟨fun hk1 => ⟨by omega, vat ad had ?_⟩, fun hk1 => ⟨_, W.in64 (by omega), i + 1, [], by omega, ?_, by decide, by omega⟩⟩
   ·try simp only [go_sem, ↓reduceIte, nQ1, nQ2, nQ3, nQ4, nQ5, nQ6, reduceCtorEq]
    rw [if_pos ⟨hg1, hk1⟩] at hsn
    have hsl2 := congrArg List.length hsn
    rw [List.length_append] at hsl2
    obtain ⟨ua, ucap, rfl, -, -⟩ := hu.form
    refine vload (.slice ua b.spent[i].cells.length ucap) (hle1 _ _ (hR 2 _ rfl)) ?_
    simp only [go_sem, ↓reduceIte, nQ1, nQ2, nQ3, nQ4, nQ5, nQ6, reduceCtorEq, e8, e7, e3, e1, e2]
    refine SpV.src (hu.mono hle1) rfl ?_
    simp only [go_sem, ↓reduceIte, nQ1, nQ2, nQ3, nQ4, nQ5, nQ6, reduceCtorEq, e8, e7, e3, e1, e2]
    refine vappO (rowS (gathD (b.spent.take i) g k)) rfl (rowS_len _) (by omega) ?_
    simp only [go_sem, ↓reduceIte, nQ1, nQ2, nQ3, nQ4, nQ5, nQ6, reduceCtorEq, e8, e7, e3, e1, e2]
    refine ⟨_, W.in64 (by omega), i + 1, [0, 2], by omega, ?_, by decide, by omega⟩
    rw [hsn, ← rowS_app, List.length_append]
    exact ⟨⟨rfl, rfl, rfl⟩, rfl, rfl⟩
   ·rw [if_neg (fun e => hk1 e.2), List.append_nil] at hsn
    rw [hsn]
    exact ⟨⟨rfl, rfl, rfl⟩, rfl, rfl⟩
  ·rw [if_neg (fun e => hg1 e.1), List.append_nil] at hsn
   rw [hsn]
   exact ⟨⟨rfl, rfl, rfl⟩, rfl, rfl⟩
 ·obtain rfl : i = b.spent.length := by omega
  rw [List.take_length]
  have hl0 := hgl b.spent.length
  rw [List.take_length] at hl0
  refine vfreeze ?_
  try simp only [go_sem, ↓reduceIte, nQ1, nQ2, nQ3, nQ4, nQ5, nQ6, reduceCtorEq, e8, e7, e3, e1, e2]
  intro b2 cap2 R2 hle2 hrow hcap hfr
  rw [rowS_len] at hcap
  have hx2 : SpV R2 (.slice (some ⟨b2, 0, none⟩) (gathD b.spent g k).length cap2) (gathD b.spent g k) := RowIn.enc (enc := Sp.cells) (k := 2) (fun _ => rfl) (by omega) hrow (by rw [rowS_len]; omega) (by omega)
  refine vcall (rCombine 0 _ [] _ _ R2 hx2 (EncV.nil _ _ _) (by simp; omega)) ?_
  intro R3 w hle3 hw
  have hw := CombN hw rfl
  rw [unionD_nil, gath_known hB.keys hB.grains] at hw
  try simp only [go_sem, ↓reduceIte, nQ1, nQ2, nQ3, nQ4, nQ5, nQ6, reduceCtorEq]
  exact hw
end Go.Proofs.YtclkibjonbhldaaGreatDoor
/- Plain lemmas of our own, no statement of the seat: valid budgets stay valid. -/
namespace Go.Proofs.YtclkibjonbhldaaGreatDoor
set_option linter.unusedSimpArgs false
set_option linter.unusedVariables false
open Go.Proofs.YtclkibjonbhldaaGreatDoor.Vc
theorem grpOf_mem {gs : List (List Int)} {x : Int} (h : 0 ≤ grpOf gs x) (hx : personB x = true) : ∃ h2 : (grpOf gs x).toNat < gs.length, x ∈ gs[(grpOf gs x).toNat] := by
 have hb := grpOf_bd (gs := gs) hx
 unfold grpOf at h hb ⊢
 split at h
 ·rename_i i hi
  obtain ⟨h1, h2, _⟩ := List.findIdx?_eq_some_iff_getElem.1 hi
  simp only [hi, Int.toNat_natCast]
  exact ⟨h1, by simpa using h2⟩
 ·simp only [personB, Bool.and_eq_true, decide_eq_true_eq] at hx
  omega
theorem valid_len {gs : List (List Int)} (h : ∀ i (hi : i < gs.length), OkG gs i gs[i]) : gs.length ≤ 512 := by
 have hh : ∀ i (hi : i < gs.length), ∃ x, x ∈ gs[i] ∧ personB x = true ∧ grpOf gs x = i := fun i hi => by
  have h1 := h i hi
  cases hg : gs[i] with
  | nil => exact absurd hg h1.ne
  | cons x l => exact ⟨x, by simp, h1.mem x (by rw [hg]; simp)⟩
 have : ∀ n, n ≤ gs.length → ∃ l : List Nat, l.length = n ∧ l.Nodup ∧ ∀ y ∈ l, y ∈ List.range 512 ∧ grpOf gs (y : Int) < n := by
  intro n
  induction n with
  | zero => exact fun _ => ⟨[], rfl, List.nodup_nil, by simp⟩
  | succ n ih =>
   intro hn
   obtain ⟨l, h1, h2, h3⟩ := ih (by omega)
   obtain ⟨x, hx, hp, hg⟩ := hh n (by omega)
   simp only [personB, Bool.and_eq_true, decide_eq_true_eq] at hp
   have hxx : ((x.toNat : Nat) : Int) = x := by omega
   refine ⟨x.toNat :: l, by simp [h1], List.nodup_cons.2 ⟨fun hm => ?_, h2⟩, fun y hy => ?_⟩
   ·have := (h3 _ hm).2
    rw [hxx] at this
    omega
   ·rcases List.mem_cons.1 hy with rfl | hy
    ·exact ⟨List.mem_range.2 (by omega), by rw [hxx]; omega⟩
    ·exact ⟨(h3 y hy).1, by have := (h3 y hy).2; omega⟩
 obtain ⟨l, h1, h2, h3⟩ := this gs.length (Nat.le_refl _)
 have := nodup_len h2 fun y hy => (h3 y hy).1
 simpa [h1] using this
structure GoneOk (gs : List (List Int)) (g : Int) : Prop where
 hi : g < gs.length
 neg : g < 0 → personB (-1 - g) = true ∧ grpOf gs (-1 - g) = g
theorem membersD_iff {gs : List (List Int)} (h : ValidG gs) {g : Int} (hg : GoneOk gs g) (x : Int) : x ∈ membersD gs g ↔ personB x = true ∧ grpOf gs x = g := by
 unfold membersD
 split
 ·rename_i hn
  simp only [List.mem_singleton]
  constructor
  ·rintro rfl; exact hg.neg hn
  ·rintro ⟨h1, h2⟩
   have := (grpOf_bd (gs := gs) h1).2.2 (by omega)
   omega
 ·rename_i hn
  have hlt : g.toNat < gs.length := by have := hg.hi; omega
  rw [List.getD_eq_getElem?_getD, List.getElem?_eq_getElem hlt]
  show x ∈ gs[g.toNat] ↔ _
  constructor
  ·intro hx
   have := (h.all _ hlt).mem x hx
   exact ⟨this.1, by rw [this.2]; omega⟩
  ·rintro ⟨h1, h2⟩
   obtain ⟨h3, h4⟩ := grpOf_mem (gs := gs) (x := x) (by omega) h1
   simpa [h2] using h4
theorem membersD_inc {gs : List (List Int)} (h : ValidG gs) {g : Int} (hg : GoneOk gs g) : Inc (membersD gs g) := by
 unfold membersD
 split
 ·exact List.pairwise_singleton _ _
 ·have hlt : g.toNat < gs.length := by have := hg.hi; omega
  rw [List.getD_eq_getElem?_getD, List.getElem?_eq_getElem hlt]
  exact (h.all _ hlt).inc
theorem sortI_mem {l : List Int} {x : Int} : x ∈ sortI l ↔ x ∈ l := List.mem_mergeSort
theorem sortI_inc {l : List Int} (h : l.Nodup) : Inc (sortI l) := by
 have h1 : (sortI l).Pairwise fun x y => decide (x ≤ y) = true := List.pairwise_mergeSort (fun a b c => by simp only [decide_eq_true_eq]; omega) (fun a b => by simp only [Bool.or_eq_true, decide_eq_true_eq]; omega) l
 have h2 : (sortI l).Nodup := (List.mergeSort_perm l _).nodup_iff.2 h
 exact (h1.and h2).imp fun {a b} ⟨p, q⟩ => by
  simp only [decide_eq_true_eq] at p
  have : a ≠ b := q
  omega
def allG (gs : List (List Int)) (keep gone : Int) : List Int := sortI (membersD gs keep ++ membersD gs gone)
theorem allG_iff {gs : List (List Int)} (h : ValidG gs) {keep gone : Int} (hk : GoneOk gs keep) (hg : GoneOk gs gone) (x : Int) : x ∈ allG gs keep gone ↔ personB x = true ∧ (grpOf gs x = keep ∨ grpOf gs x = gone) := by
 unfold allG
 rw [sortI_mem, List.mem_append, membersD_iff h hk, membersD_iff h hg]
 constructor
 ·rintro (⟨a, b⟩ | ⟨a, b⟩)
  ·exact ⟨a, .inl b⟩
  ·exact ⟨a, .inr b⟩
 ·rintro ⟨a, b | b⟩
  ·exact .inl ⟨a, b⟩
  ·exact .inr ⟨a, b⟩
theorem allG_inc {gs : List (List Int)} (h : ValidG gs) {keep gone : Int} (hk : GoneOk gs keep) (hg : GoneOk gs gone) (hne : keep ≠ gone) : Inc (allG gs keep gone) :=
 sortI_inc (List.nodup_append.2 ⟨(membersD_inc h hk).nodup, (membersD_inc h hg).nodup, fun a ha b hb e => hne (by
  rw [← ((membersD_iff h hk a).1 ha).2, ← ((membersD_iff h hg b).1 hb).2, e])⟩)
theorem g1_get {gs : List (List Int)} {keep gone : Int} (hhi : keep < gs.length) (j : Nat) (hj : j < (gs2D gs keep gone).length) : (gs2D gs keep gone)[j] = if (j : Int) = intoG gs keep then allG gs keep gone else gs.getD j [] := by
 unfold gs2D intoG allG at *
 by_cases h : keep < 0
 ·simp only [h, if_true] at hj ⊢
  rw [List.getElem_append]
  split
  ·rename_i h2
   rw [if_neg (by omega), List.getD_eq_getElem?_getD, List.getElem?_eq_getElem h2]; rfl
  ·rename_i h2
   have hjj : (j : Int) = gs.length := by simp at hj; omega
   rw [if_pos hjj]
   simp
 ·simp only [h, if_false] at hj ⊢
  rw [List.getElem_set]
  have hl : j < gs.length := by simpa using hj
  by_cases e : (j : Int) = keep
  ·rw [if_pos (by omega), if_pos e]
  ·rw [if_neg (by omega), if_neg e, List.getD_eq_getElem?_getD, List.getElem?_eq_getElem hl]; rfl
theorem gs2D_len {gs : List (List Int)} {keep gone : Int} : (gs2D gs keep gone).length = if keep < 0 then gs.length + 1 else gs.length := by
 unfold gs2D; split <;> simp
theorem joinG_eq {gs : List (List Int)} {keep gone : Int} : joinG gs keep gone = if 0 ≤ gone then (gs2D gs keep gone).eraseIdx gone.toNat else gs2D gs keep gone := rfl
def dnN (gone : Int) (i : Nat) : Nat := if 0 ≤ gone ∧ gone ≤ i then i + 1 else i
theorem joinG_get {gs : List (List Int)} {keep gone : Int} (h : KG gs keep gone) (i : Nat) (hi : i < (joinG gs keep gone).length) : ∃ hd : dnN gone i < (gs2D gs keep gone).length, (joinG gs keep gone)[i] = (gs2D gs keep gone)[dnN gone i] := by
 unfold dnN
 by_cases h0 : 0 ≤ gone
 ·simp only [joinG_eq, h0, if_true] at hi ⊢
  have hlen : gone.toNat < (gs2D gs keep gone).length := by rw [gs2D_len]; have := h.hi; split <;> omega
  rw [List.length_eraseIdx] at hi
  simp only [hlen, if_true] at hi
  rw [List.getElem_eraseIdx]
  by_cases e : gone ≤ i
  ·simp only [e, and_true, if_true]
   exact ⟨by omega, by rw [dif_neg (by omega)]⟩
  ·simp only [e, and_false, if_false]
   exact ⟨by omega, by rw [dif_pos (by omega)]⟩
 ·simp only [joinG_eq, h0, if_false, false_and] at hi ⊢
  exact ⟨hi, by first | rfl | trivial⟩
theorem dnN_ne {keep gone : Int} {gs : List (List Int)} (h : KG gs keep gone) {i : Nat} : (dnN gone i : Int) ≠ gone := by
 unfold dnN; split <;> omega
theorem dnN_inj {gone : Int} {i j : Nat} (h : dnN gone i = dnN gone j) : i = j := by
 unfold dnN at h; split at h <;> split at h <;> omega
theorem upG_dn {gone : Int} {i : Nat} : (if 0 ≤ gone then upG gone (dnN gone i) else (dnN gone i : Int)) = i := by
 unfold dnN upG
 split <;> split <;> (try split) <;> omega
theorem joinG_mem {gs : List (List Int)} (hV : ValidG gs) {keep gone : Int} (h : KG gs keep gone) (hk : GoneOk gs keep) (hg : GoneOk gs gone) (i : Nat) (hi : i < (joinG gs keep gone).length) (x : Int) :
  x ∈ (joinG gs keep gone)[i] ↔ personB x = true ∧ map1 keep gone (intoG gs keep) (grpOf gs x) = dnN gone i := by
 obtain ⟨hd, e⟩ := joinG_get h i hi
 rw [e, g1_get h.hi.1]
 have hne := dnN_ne h (i := i)
 have ho := h.ord
 have hhi := h.hi
 have hb := fun hx : personB x = true => grpOf_bd (gs := gs) hx
 have hlen := gs2D_len (gs := gs) (keep := keep) (gone := gone)
 have hin : intoG gs keep = if keep < 0 then (gs.length : Int) else keep := rfl
 unfold map1
 by_cases ei : (dnN gone i : Int) = intoG gs keep
 ·rw [if_pos ei, allG_iff hV hk hg, ei]
  refine and_congr_right fun hx => ?_
  have := hb hx
  constructor
  ·intro h1; rw [if_pos h1]
  ·intro h1
   by_cases h2 : grpOf gs x = keep ∨ grpOf gs x = gone
   ·exact h2
   ·rw [if_neg h2] at h1
    split at hin
    ·omega
    ·exact .inl (by omega)
 ·rw [if_neg ei]
  have hlt : dnN gone i < gs.length := by
   rw [hlen] at hd
   split at hin
   ·rename_i hneg; rw [if_pos hneg] at hd; omega
   ·rename_i hneg; rw [if_neg hneg] at hd; exact hd
  rw [List.getD_eq_getElem?_getD, List.getElem?_eq_getElem hlt]
  show x ∈ gs[dnN gone i] ↔ _
  constructor
  ·intro hx
   obtain ⟨h1, h2⟩ := (hV.all _ hlt).mem x hx
   refine ⟨h1, ?_⟩
   rw [if_neg, h2]
   rw [h2]
   split at hin <;> omega
  ·rintro ⟨h1, h2⟩
   split at h2
   ·exact absurd h2.symm ei
   ·obtain ⟨h3, h4⟩ := grpOf_mem (gs := gs) (x := x) (by omega) h1
    simpa [h2] using h4
theorem grpOf_join {gs : List (List Int)} (hV : ValidG gs) {keep gone : Int} (h : KG gs keep gone) (hk : GoneOk gs keep) (hg : GoneOk gs gone) {x : Int} (hx : personB x = true) : grpOf (joinG gs keep gone) x = mapG gs keep gone (grpOf gs x) := by
 have hm := fun i hi => joinG_mem hV h hk hg i hi x
 have e : mapG gs keep gone (grpOf gs x) = if 0 ≤ gone then upG gone (map1 keep gone (intoG gs keep) (grpOf gs x)) else map1 keep gone (intoG gs keep) (grpOf gs x) := rfl
 rw [e]
 by_cases hex : ∃ i, ∃ hi : i < (joinG gs keep gone).length, x ∈ (joinG gs keep gone)[i]
 ·obtain ⟨i, hi, hxi⟩ := hex
  have h1 := ((hm i hi).1 hxi).2
  rw [h1, upG_dn]
  refine grpOf_here hi (by simpa using hxi) fun j hj hji => ?_
  rw [Bool.eq_false_iff]
  intro hc
  have h2 := ((hm j hj).1 (by simpa using hc)).2
  have := dnN_inj (gone := gone) (i := i) (j := j) (by omega)
  omega
 ·have hno : ∀ i (hi : i < (joinG gs keep gone).length), (joinG gs keep gone)[i].contains x = false := fun i hi => by
   rw [Bool.eq_false_iff]
   exact fun hc => hex ⟨i, hi, by simpa using hc⟩
  rw [grpOf_none hno]
  have hb := grpOf_bd (gs := gs) hx
  have ho := h.ord
  have hhi := h.hi
  have hin : intoG gs keep = if keep < 0 then (gs.length : Int) else keep := rfl
  have hjl : (joinG gs keep gone).length = if 0 ≤ gone then (gs2D gs keep gone).length - 1 else (gs2D gs keep gone).length := by
   rw [joinG_eq]
   split
   ·rw [List.length_eraseIdx, if_pos]
    rw [gs2D_len]; split <;> omega
   ·rfl
  rw [gs2D_len] at hjl
  by_cases hn : 0 ≤ map1 keep gone (intoG gs keep) (grpOf gs x)
  ·exfalso
   have hml : map1 keep gone (intoG gs keep) (grpOf gs x) ≠ gone := map1_gone (by split at hin <;> omega)
   have hm2 : map1 keep gone (intoG gs keep) (grpOf gs x) < if keep < 0 then (gs.length : Int) + 1 else gs.length := by
    unfold map1
    split at hin <;> split <;> omega
   have hup : ∃ i : Nat, (dnN gone i : Int) = map1 keep gone (intoG gs keep) (grpOf gs x) ∧ i < (joinG gs keep gone).length := by
    refine ⟨(if 0 ≤ gone then upG gone (map1 keep gone (intoG gs keep) (grpOf gs x)) else map1 keep gone (intoG gs keep) (grpOf gs x)).toNat, ?_, ?_⟩
    ·unfold dnN upG
     split <;> split <;> (try split) <;> omega
    ·rw [hjl]
     unfold upG
     split <;> split at hm2 <;> (try split) <;> omega
   obtain ⟨i, h1, h2⟩ := hup
   exact hex ⟨i, h2, (hm i h2).2 ⟨hx, h1.symm⟩⟩
  ·have hng : ¬ (grpOf gs x = keep ∨ grpOf gs x = gone) := fun h1 => hn (by unfold map1; rw [if_pos h1]; split at hin <;> omega)
   unfold map1 at hn ⊢
   rw [if_neg hng] at hn ⊢
   have h3 := hb.2.2 (by omega)
   rw [h3]
   unfold upG
   split
   ·rw [if_neg (by omega)]
   ·rfl
theorem gone_ok {gs : List (List Int)} {p : Int} (hp : personB p = true) : GoneOk gs (grpOf gs p) := by
 have := grpOf_bd (gs := gs) hp
 refine ⟨this.1, fun h => ?_⟩
 have h2 := this.2.2 h
 rw [show -1 - grpOf gs p = p by omega]
 exact ⟨hp, rfl⟩
theorem joinG_valid {gs : List (List Int)} (hV : ValidG gs) {keep gone : Int} (h : KG gs keep gone) (hk : GoneOk gs keep) (hg : GoneOk gs gone) : ValidG (joinG gs keep gone) := by
 have key : ∀ i (hi : i < (joinG gs keep gone).length), OkG (joinG gs keep gone) i (joinG gs keep gone)[i] := fun i hi => by
  have hmem := joinG_mem hV h hk hg i hi
  obtain ⟨hd, e⟩ := joinG_get h i hi
  have e2 := e.trans (g1_get h.hi.1 (dnN gone i) hd)
  have hlen := gs2D_len (gs := gs) (keep := keep) (gone := gone)
  have hin : intoG gs keep = if keep < 0 then (gs.length : Int) else keep := rfl
  have hmp : ∀ p ∈ (joinG gs keep gone)[i], personB p = true ∧ grpOf (joinG gs keep gone) p = i := fun p hp => by
   obtain ⟨h1, h2⟩ := (hmem p).1 hp
   refine ⟨h1, ?_⟩
   rw [grpOf_join hV h hk hg h1]
   show (if 0 ≤ gone then upG gone (map1 keep gone (intoG gs keep) (grpOf gs p)) else map1 keep gone (intoG gs keep) (grpOf gs p)) = i
   rw [h2, upG_dn]
  by_cases ei : (dnN gone i : Int) = intoG gs keep
  ·rw [if_pos ei] at e2
   refine ⟨?_, by rw [e2]; exact allG_inc hV hk hg h.ne, hmp⟩
   rw [e2]
   intro hnil
   have hm := membersD_len hV hk.hi
   have : (allG gs keep gone).length = (membersD gs keep ++ membersD gs gone).length := by unfold allG sortI; rw [List.length_mergeSort]
   rw [hnil, List.length_append] at this
   simp at this
   omega
  ·rw [if_neg ei] at e2
   have hlt : dnN gone i < gs.length := by
    rw [hlen] at hd
    split at hin
    ·rename_i hneg; rw [if_pos hneg] at hd; omega
    ·rename_i hneg; rw [if_neg hneg] at hd; exact hd
   rw [List.getD_eq_getElem?_getD, List.getElem?_eq_getElem hlt] at e2
   have hO := hV.all _ hlt
   refine ⟨by rw [e2]; exact hO.ne, by rw [e2]; exact hO.inc, hmp⟩
 exact ⟨key, valid_len key⟩
end Go.Proofs.YtclkibjonbhldaaGreatDoor
/- Plain lemmas of our own, no statement of the seat: askB and aliasB keep budgets valid; how large they become. -/
namespace Go.Proofs.YtclkibjonbhldaaGreatDoor
set_option linter.unusedSimpArgs false
set_option linter.unusedVariables false
open Go.Proofs.YtclkibjonbhldaaGreatDoor.Vc
def lens (l : List Se) : Nat := (l.map fun s => s.cells.length).sum
theorem lens_cons (s : Se) (l : List Se) : lens (s :: l) = s.cells.length + lens l := by unfold lens; rw [List.map_cons, List.sum_cons]
theorem lens_mem {l : List Se} {s : Se} (h : s ∈ l) : s.cells.length ≤ lens l := by
 induction l with
 | nil => cases h
 | cons x l ih =>
  rw [lens_cons]
  rcases List.mem_cons.1 h with rfl | h
  ·omega
  ·have := ih h; omega
theorem lookD_cons {y : Se} {l : List Se} {g k : Int} : lookD (y :: l) g k = if seKey y = (g, k) then y.cells else lookD l g k := by
 unfold lookD
 rw [List.find?_cons]
 by_cases h : seKey y = (g, k) <;> simp [h]
theorem lookD_nil {l : List Se} {g k : Int} (h : ∀ s ∈ l, seKey s ≠ (g, k)) : lookD l g k = [] := by
 unfold lookD
 rw [List.find?_eq_none.2 fun s hs => by simpa using h s hs]
theorem lookD_cases (l : List Se) (g k : Int) : lookD l g k = [] ∨ ∃ s ∈ l, seKey s = (g, k) ∧ lookD l g k = s.cells := by
 unfold lookD
 cases h : l.find? (fun s => decide (seKey s = (g, k))) with
 | none => exact .inl rfl
 | some s => exact .inr ⟨s, List.mem_of_find?_eq_some h, by simpa using List.find?_some h, rfl⟩
theorem insE_sum (F : Se → Int) (G : List Sp → Int) (h0 : G [] = 0) (s : Se) (hF : ∀ y : Se, seKey y = seKey s → F y = G y.cells) : ∀ l : List Se, l.Pairwise keyLt → ((insE s l).map F).sum + G (lookD l s.group s.grain) = (l.map F).sum + F s
 | [], _ => by simp [insE, lookD, h0]
 | y :: l, h => by
  obtain ⟨h1, h2⟩ := List.pairwise_cons.1 h
  unfold insE
  rw [lookD_cons]
  split
  ·rename_i hlt
   have hne : seKey y ≠ (s.group, s.grain) := fun e => keyLt_ne hlt e.symm
   rw [if_neg hne, lookD_nil fun z hz e => keyLt_ne (keyLt_trans hlt (h1 z hz)) e.symm, h0]
   simp only [List.map_cons, List.sum_cons]; omega
  ·rename_i hnl
   split
   ·rename_i hlt
    rw [if_neg (show ¬ seKey y = (s.group, s.grain) from keyLt_ne hlt)]
    have := insE_sum F G h0 s hF l h2
    simp only [List.map_cons, List.sum_cons]; omega
   ·rename_i hnl2
    have he : seKey s = seKey y := keyLt_tri hnl hnl2
    rw [if_pos (show seKey y = (s.group, s.grain) from he.symm), ← hF y he.symm]
    simp only [List.map_cons, List.sum_cons]; omega
theorem insE_len (s : Se) : ∀ l : List Se, (insE s l).length ≤ l.length + 1
 | [] => by simp [insE]
 | y :: l => by
  unfold insE
  have := insE_len s l
  split
  ·simp
  ·split
   ·simp only [List.length_cons]; omega
   ·simp
theorem addS_len {l : List Se} {g k : Int} {cs : List Sp} : (addS l g k cs).length ≤ l.length + 1 := by
 unfold addS
 split
 ·omega
 ·exact insE_len _ _
theorem lens_int (l : List Se) : (lens l : Int) = (l.map fun s => (s.cells.length : Int)).sum := by
 induction l with
 | nil => rfl
 | cons s l ih => rw [lens_cons, List.map_cons, List.sum_cons, ← ih]; omega
theorem unionD_len (a b : List Sp) : (unionD a b).length ≤ a.length + b.length := by
 have := normD_len (a ++ b)
 rw [List.length_append] at this
 exact this
theorem addS_lens {l : List Se} (h : l.Pairwise keyLt) {g k : Int} {cs : List Sp} : lens (addS l g k cs) ≤ lens l + cs.length := by
 unfold addS
 split
 ·omega
 ·have h1 := insE_sum (fun s => (s.cells.length : Int)) (fun c => (c.length : Int)) rfl ⟨g, k, unionD (lookD l g k) cs⟩ (fun _ _ => rfl) l h
  have h2 := unionD_len (lookD l g k) cs
  rw [← lens_int, ← lens_int] at h1
  simp only at h1
  omega
theorem fold_bd : ∀ (l acc : List Se), acc.Pairwise keyLt → lens (l.foldl (fun acc s => addS acc s.group s.grain s.cells) acc) ≤ lens acc + lens l ∧ (l.foldl (fun acc s => addS acc s.group s.grain s.cells) acc).length ≤ acc.length + l.length
 | [], acc, _ => by simp [lens]
 | s :: l, acc, h => by
  have h1 := fold_bd l (addS acc s.group s.grain s.cells) (addS_sorted h)
  have h2 := addS_lens h (g := s.group) (k := s.grain) (cs := s.cells)
  have h3 := addS_len (l := acc) (g := s.group) (k := s.grain) (cs := s.cells)
  rw [lens_cons, List.foldl_cons, List.length_cons]
  omega
structure SzB (b : Bu) (n m : Nat) : Prop where
 len : b.spent.length ≤ n
 lens : lens b.spent ≤ m
theorem SzB.mono {b : Bu} {n m n' m' : Nat} (h : SzB b n m) (h1 : n ≤ n') (h2 : m ≤ m') : SzB b n' m' := ⟨Nat.le_trans h.len h1, Nat.le_trans h.lens h2⟩
theorem OkB.grp {b : Bu} (hB : OkB b) {s : Se} (hs : s ∈ b.spent) : ∃ z, personB z = true ∧ grpOf b.groups z = s.group := by
 have h := hB.each s hs
 by_cases hn : s.group < 0
 ·exact ⟨_, h.alone hn⟩
 ·have hlt : s.group.toNat < b.groups.length := by have := h.group; omega
  have hO := hB.groups.all _ hlt
  cases hg : b.groups[s.group.toNat] with
  | nil => exact absurd hg hO.ne
  | cons x l =>
   have := hO.mem x (by rw [hg]; simp)
   exact ⟨x, this.1, by rw [this.2]; omega⟩
theorem OkB.raw {b : Bu} (hB : OkB b) (h : SzB b 1000 1000) : RawB b := by
 refine ⟨fun s hs => ⟨?_, Nat.le_trans (lens_mem hs) h.lens⟩, h.len⟩
 obtain ⟨z, h1, h2⟩ := hB.grp hs
 have := grpOf_bd (gs := b.groups) h1
 have := hB.groups.len
 unfold I64
 omega
theorem okS_grp {gs : List (List Int)} {z : Int} (hz : personB z = true) : grpOf gs z < gs.length ∧ (grpOf gs z < 0 → personB (-1 - grpOf gs z) = true ∧ grpOf gs (-1 - grpOf gs z) = grpOf gs z) :=
 ⟨(gone_ok hz).hi, (gone_ok hz).neg⟩
theorem validS_of {l : List Sp} (h1 : Normal l) (h2 : rangedB l = true) : validS l = true := validS_iff.2 ⟨h1, h2⟩
theorem OkB.look {b : Bu} (hB : OkB b) (g k : Int) : Normal (lookD b.spent g k) ∧ rangedB (lookD b.spent g k) = true ∧ ((lookD b.spent g k).all fun c => alignedB c (sizeI k)) = true := by
 rcases lookD_cases b.spent g k with e | ⟨s, hs, hk, e⟩
 ·rw [e]; exact ⟨Normal.nil, rfl, rfl⟩
 ·rw [e]
  have h := hB.each s hs
  have h2 := validS_iff.1 h.nor
  have : s.grain = k := congrArg Prod.snd hk
  subst this
  exact ⟨h2.1, h2.2, h.ali⟩
theorem OkB.ask {b : Bu} (hB : OkB b) {p k : Int} {w : Sp} (hp : personB p = true) (hk : 1 ≤ k ∧ k ≤ 4) (hw : OkW k w) : OkB (askB b p k w) := by
 refine ⟨hB.lim, hB.groups, fun s hs => ?_, addS_sorted hB.ord⟩
 rcases (addS_mem hB.ord s).1 hs with ⟨_, hs⟩ | ⟨hne, rfl | ⟨hs, _⟩⟩
 ·exact hB.each s hs
 ·have hg := okS_grp (gs := b.groups) hp
  obtain ⟨l1, l2, l3⟩ := hB.look (grpOf b.groups p) k
  obtain ⟨m1, m2, m3, _⟩ := missD_facts (K := memS (knownD b.spent (grpOf b.groups p) k)) hw
  refine ⟨hk, hne, hg.1, hg.2, validS_of (unionD_normal _ _) (normD_ranged (by rw [rangedB_app, l2]; exact m2)), normD_aligned ?_⟩
  rw [List.all_append, l3]
  exact m3
 ·exact hB.each s hs
theorem askB_bd {b : Bu} (hB : OkB b) {p k : Int} {w : Sp} (hw : OkW k w) {n m c : Nat} (h : SzB b n m) (hc : ((w.t - w.f) / sizeI k).toNat ≤ c) : SzB (askB b p k w) (n + 1) (m + c) := by
 have h1 := addS_len (l := b.spent) (g := grpOf b.groups p) (k := k) (cs := missQ b p k w)
 have h2 := addS_lens hB.ord (g := grpOf b.groups p) (k := k) (cs := missQ b p k w)
 have h3 := (missD_facts (K := memS (knownD b.spent (grpOf b.groups p) k)) hw).2.2.2
 have h4 := h.len
 have h5 := h.lens
 refine ⟨Nat.le_trans h1 (by omega), Nat.le_trans h2 ?_⟩
 have : (missQ b p k w).length ≤ c := Nat.le_trans h3 hc
 omega
theorem canon_cells {l : List Se} {s : Se} (hs : s ∈ canon l) : (∃ x ∈ l, seKey x = seKey s) ∧ s.cells = normD ((l.filter fun x => decide (seKey x = seKey s)).flatMap (·.cells)) := by
 have hn := sorted_nodup (canon_sorted l)
 have hF := canon_full l s hs
 have hv : ∀ t, memS s.cells t = anyV l s.group s.grain t := fun t => by
  rw [← canon_view]
  unfold view
  rw [lookD_mem hn hs rfl]
 refine ⟨?_, hF.1.eq_normD fun t => ?_⟩
 ·obtain ⟨t, ht⟩ := full_ne hF
  rw [hv] at ht
  unfold anyV at ht
  obtain ⟨x, hx, h⟩ := List.any_eq_true.1 ht
  simp only [Bool.and_eq_true, decide_eq_true_eq] at h
  exact ⟨x, hx, h.1⟩
 ·rw [hv, Bool.eq_iff_iff]
  unfold anyV
  rw [List.any_eq_true, memS_iff]
  constructor
  ·rintro ⟨x, hx, h⟩
   simp only [Bool.and_eq_true, decide_eq_true_eq] at h
   obtain ⟨c, hc, h3⟩ := memS_iff.1 h.2
   exact ⟨c, List.mem_flatMap.2 ⟨x, List.mem_filter.2 ⟨hx, decide_eq_true h.1⟩, hc⟩, h3⟩
  ·rintro ⟨c, hc, h3⟩
   obtain ⟨x, hx, hc⟩ := List.mem_flatMap.1 hc
   obtain ⟨hx, he⟩ := List.mem_filter.1 hx
   refine ⟨x, hx, ?_⟩
   rw [Bool.and_eq_true]
   exact ⟨he, memS_iff.2 ⟨c, hc, h3⟩⟩
theorem aliasB_same {b : Bu} {p q : Int} (h : grpOf b.groups p = grpOf b.groups q) : aliasB b p q = b := by unfold aliasB; rw [if_pos h]
theorem aliasB_diff {b : Bu} {p q : Int} (h : grpOf b.groups p ≠ grpOf b.groups q) : aliasB b p q = ⟨b.limit, joinG b.groups (keepG b.groups p q) (goneG b.groups p q), canon (b.spent.map fun s => ⟨mapG b.groups (keepG b.groups p q) (goneG b.groups p q) s.group, s.grain, s.cells⟩)⟩ := by unfold aliasB; rw [if_neg h]
theorem kg_gone {gs : List (List Int)} {p q : Int} (hp : personB p = true) (hq : personB q = true) : GoneOk gs (keepG gs p q) ∧ GoneOk gs (goneG gs p q) := by
 unfold keepG goneG
 split
 ·exact ⟨gone_ok hq, gone_ok hp⟩
 ·exact ⟨gone_ok hp, gone_ok hq⟩
theorem OkB.alias {b : Bu} (hB : OkB b) {p q : Int} (hp : personB p = true) (hq : personB q = true) : OkB (aliasB b p q) := by
 by_cases he : grpOf b.groups p = grpOf b.groups q
 ·rw [aliasB_same he]; exact hB
 rw [aliasB_diff he]
 have hK := kg_of hp hq he
 obtain ⟨k1, k2⟩ := kg_gone (gs := b.groups) hp hq
 refine ⟨hB.lim, joinG_valid hB.groups hK k1 k2, fun s hs => ?_, canon_sorted _⟩
 obtain ⟨⟨x, hx, hxk⟩, hc⟩ := canon_cells hs
 have hF := canon_full _ s hs
 obtain ⟨y, hy, rfl⟩ := List.mem_map.1 hx
 have hgr : y.grain = s.grain := congrArg Prod.snd hxk
 have hgg : mapG b.groups (keepG b.groups p q) (goneG b.groups p q) y.group = s.group := congrArg Prod.fst hxk
 obtain ⟨z, hz, hzg⟩ := hB.grp hy
 rw [← hzg, ← grpOf_join hB.groups hK k1 k2 hz] at hgg
 have hg := okS_grp (gs := joinG b.groups (keepG b.groups p q) (goneG b.groups p q)) hz
 rw [hgg] at hg
 have hall : ∀ c ∈ (((b.spent.map fun s => (⟨mapG b.groups (keepG b.groups p q) (goneG b.groups p q) s.group, s.grain, s.cells⟩ : Se)).filter fun x => decide (seKey x = seKey s)).flatMap (·.cells)), ∃ y ∈ b.spent, y.grain = s.grain ∧ c ∈ y.cells := fun c hc => by
  obtain ⟨x, hx, hc⟩ := List.mem_flatMap.1 hc
  obtain ⟨hx, he⟩ := List.mem_filter.1 hx
  obtain ⟨y, hy, rfl⟩ := List.mem_map.1 hx
  simp only [decide_eq_true_eq] at he
  exact ⟨y, hy, congrArg Prod.snd he, hc⟩
 refine ⟨by rw [← hgr]; exact (hB.each y hy).grain, hF.2, hg.1, hg.2, validS_of hF.1 ?_, ?_⟩
 ·rw [hc]
  refine normD_ranged (rangedB_iff.2 fun c hc => ?_)
  obtain ⟨y, hy, _, hc⟩ := hall c hc
  exact rangedB_iff.1 (validS_iff.1 (hB.each y hy).nor).2 c hc
 ·rw [hc]
  refine normD_aligned (List.all_eq_true.2 fun c hc => ?_)
  obtain ⟨y, hy, e, hc⟩ := hall c hc
  rw [← e]
  exact List.all_eq_true.1 (hB.each y hy).ali c hc
theorem aliasB_bd {b : Bu} {p q : Int} {n m : Nat} (h : SzB b n m) : SzB (aliasB b p q) n m := by
 by_cases he : grpOf b.groups p = grpOf b.groups q
 ·rw [aliasB_same he]; exact h
 rw [aliasB_diff he]
 obtain ⟨h1, h2⟩ := fold_bd (b.spent.map fun s => ⟨mapG b.groups (keepG b.groups p q) (goneG b.groups p q) s.group, s.grain, s.cells⟩) [] List.Pairwise.nil
 have h3 := h.len
 have h4 := h.lens
 refine ⟨Nat.le_trans h2 (by simpa using h3), Nat.le_trans h1 ?_⟩
 have : lens (b.spent.map fun s => (⟨mapG b.groups (keepG b.groups p q) (goneG b.groups p q) s.group, s.grain, s.cells⟩ : Se)) = lens b.spent := by
  unfold lens; rw [List.map_map]; rfl
 rw [this]
 simpa [lens] using h4
end Go.Proofs.YtclkibjonbhldaaGreatDoor
/- Plain lemmas of our own, no statement of the seat: how many cells a set has; totals after asking. -/
namespace Go.Proofs.YtclkibjonbhldaaGreatDoor
set_option linter.unusedSimpArgs false
set_option linter.unusedVariables false
open Go.Proofs.YtclkibjonbhldaaGreatDoor.Vc
def pts (p : Int → Bool) (L : Int) : Nat → Int
 | 0 => 0
 | n + 1 => pts p L n + if p (L + n) = true then 1 else 0
theorem pts_ext {p q : Int → Bool} {L : Int} (h : ∀ t, p t = q t) : ∀ n, pts p L n = pts q L n
 | 0 => rfl
 | n + 1 => by simp only [pts, pts_ext h n, h]
theorem pts_or {p q : Int → Bool} {L : Int} (h : ∀ t, ¬ (p t = true ∧ q t = true)) : ∀ n, pts (fun t => p t || q t) L n = pts p L n + pts q L n
 | 0 => rfl
 | n + 1 => by
  have := h (L + n)
  simp only [pts, pts_or h n, Bool.or_eq_true]
  by_cases hp : p (L + n) = true
  ·have hq : ¬ q (L + n) = true := fun hq => this ⟨hp, hq⟩
   simp only [hp, hq, true_or, if_true]
   simp
   omega
  ·simp only [hp, false_or]
   simp
   omega
theorem pts_none {L : Int} : ∀ n, pts (fun _ => false) L n = 0
 | 0 => rfl
 | n + 1 => by simp [pts, pts_none n]
theorem pts_span {L f t : Int} (h1 : L ≤ f) (h2 : f ≤ t) : ∀ n : Nat, pts (fun x => decide (f ≤ x) && decide (x < t)) L n = if (L + n) ≤ f then 0 else if t ≤ L + n then t - f else L + n - f
 | 0 => by simp [pts]; omega
 | n + 1 => by
  simp only [pts, pts_span h1 h2 n, Bool.and_eq_true, decide_eq_true_eq]
  rw [show ((n + 1 : Nat) : Int) = n + 1 by omega]
  split <;> split <;> split <;> (try split) <;> (try split) <;> omega
theorem countL_pts {L : Int} {n : Nat} : ∀ l : List Sp, Normal l → (∀ s ∈ l, L ≤ s.f ∧ s.t ≤ L + n) → countL 1 l = pts (memS l) L n
 | [], _, _ => by
  have : pts (memS []) L n = pts (fun _ => false) L n := rfl
  rw [this, pts_none]; rfl
 | s :: l, h, hb => by
  have hp := h.pos s (by simp)
  have hbs := hb s (by simp)
  have ho := (List.pairwise_cons.1 h.ord).1
  have ih := countL_pts l h.tail fun y hy => hb y (by simp [hy])
  have e : pts (memS (s :: l)) L n = pts (fun t => (decide (s.f ≤ t) && decide (t < s.t)) || memS l t) L n := rfl
  rw [e, pts_or (fun t => ?_), ← ih, pts_span hbs.1 (by omega)]
  ·simp only [countL, Int.ediv_one]
   rw [if_neg (by omega), if_pos hbs.2]
  ·rintro ⟨h1, h2⟩
   simp only [Bool.and_eq_true, decide_eq_true_eq] at h1
   obtain ⟨y, hy, h3⟩ := memS_iff.1 h2
   have := ho y hy
   omega
theorem rng_pts {l : List Sp} (h : Normal l) (hr : rangedB l = true) : countL 1 l = pts (memS l) (-2251799813685248) 4503599627370496 := countL_pts l h fun s hs => by
 have := rangedB_iff.1 hr s hs
 omega
theorem countL_mul {n : Int} : ∀ l : List Sp, (l.all fun c => alignedB c n) = true → n * countL n l = countL 1 l
 | [], _ => by simp [countL]
 | s :: l, h => by
  simp only [List.all_cons, Bool.and_eq_true] at h
  have ih := countL_mul l h.2
  have ha := alignedB_iff.1 h.1
  simp only [countL, Int.ediv_one, Int.mul_add, ih]
  rw [Int.mul_ediv_cancel' (Int.dvd_sub (Int.dvd_of_emod_eq_zero ha.2) (Int.dvd_of_emod_eq_zero ha.1))]
structure Whole (k : Int) (l : List Sp) : Prop where
 nor : Normal l
 rng : rangedB l = true
 ali : (l.all fun c => alignedB c (sizeI k)) = true
theorem Whole.union {k : Int} {a b : List Sp} (ha : Whole k a) (hb : Whole k b) : Whole k (unionD a b) :=
 ⟨unionD_normal _ _, normD_ranged (by rw [rangedB_app, ha.rng, hb.rng]; rfl), normD_aligned (by rw [List.all_append, ha.ali, hb.ali]; rfl)⟩
theorem Whole.count {k : Int} {l : List Sp} (h : Whole k l) : sizeI k * countL (sizeI k) l = pts (memS l) (-2251799813685248) 4503599627370496 := by rw [countL_mul l h.ali, rng_pts h.nor h.rng]
theorem mul_inj {n a b : Int} (hn : 0 < n) (h : n * a = n * b) : a = b := Int.eq_of_mul_eq_mul_left (by omega) h
theorem count_union {k : Int} {a b : List Sp} (ha : Whole k a) (hb : Whole k b) (hd : ∀ t, ¬ (memS a t = true ∧ memS b t = true)) : countL (sizeI k) (unionD a b) = countL (sizeI k) a + countL (sizeI k) b := by
 refine mul_inj (sizeI_pos k) ?_
 rw [Int.mul_add, ha.count, hb.count, (ha.union hb).count, ← pts_or hd]
 exact pts_ext (fun t => unionD_mem a b t) _
theorem OkB.whole {b : Bu} (hB : OkB b) (g k : Int) : Whole k (lookD b.spent g k) := ⟨(hB.look g k).1, (hB.look g k).2.1, (hB.look g k).2.2⟩
theorem missQ_whole {b : Bu} {p k : Int} {w : Sp} (hw : OkW k w) : Whole k (missQ b p k w) := by
 obtain ⟨h1, h2, h3, _⟩ := missD_facts (K := memS (knownD b.spent (grpOf b.groups p) k)) hw
 exact ⟨h1, h2, h3⟩
theorem known_look {l : List Se} {g k t : Int} (hk : 1 ≤ k ∧ k ≤ 4) (h : memS (lookD l g k) t = true) : memS (knownD l g k) t = true := by
 unfold knownD
 rw [normD_mem, knownL_mem]
 refine ⟨0, by omega, ?_⟩
 unfold view
 simpa using h
theorem sizeI_cases (k : Int) : sizeI k = 1440 ∨ sizeI k = 30 ∨ sizeI k = 1 := by
 unfold sizeI
 split
 ·exact .inl rfl
 ·split
  ·exact .inr (.inl rfl)
  ·exact .inr (.inr rfl)
theorem cell_in {n f t a x : Int} (hn : n = 1440 ∨ n = 30 ∨ n = 1) (h1 : f % n = 0) (h2 : t % n = 0) (h3 : a % n = 0) (h4 : a ≤ x) (h5 : x < a + n) (h6 : f ≤ x) (h7 : x < t) : f ≤ a ∧ a + n ≤ t := by
 rcases hn with rfl | rfl | rfl <;> omega
theorem missC_mem {k : Int} {K : Int → Bool} {w c : Sp} (hw : OkW k w) (hc : c ∈ missC (sizeI k) K w) : c.f % sizeI k = 0 ∧ c.t = c.f + sizeI k ∧ w.f ≤ c.f ∧ c.t ≤ w.t ∧ ∃ t, c.f ≤ t ∧ t < c.t ∧ K t = false := by
 have hali := alignedB_iff.1 hw.ali
 have hp := hw.pos
 obtain ⟨h1, h2⟩ := List.mem_filter.1 hc
 obtain ⟨c1, c2, c3, c4⟩ := (cellsW_mem (sizeI_pos k) hali.1 hali.2 (by omega)).1 h1
 refine ⟨c1, c2, c3, c4, ?_⟩
 refine Classical.byContradiction fun hno => ?_
 have : covered (sizeI k) K c = true := (covered_iff (sizeI_pos k) c2).2 fun t h3 h4 => by
  cases hK : K t with
  | true => rfl
  | false => exact absurd ⟨t, h3, h4, hK⟩ hno
 rw [this] at h2
 cases h2
theorem miss_apart {b : Bu} (hB : OkB b) {p k : Int} {w : Sp} (hk : 1 ≤ k ∧ k ≤ 4) (hw : OkW k w) (t : Int) : ¬ (memS (lookD b.spent (grpOf b.groups p) k) t = true ∧ memS (missQ b p k w) t = true) := by
 rintro ⟨h1, h2⟩
 unfold missQ missD at h2
 rw [normD_mem] at h2
 obtain ⟨c, hc, h3, h4⟩ := memS_iff.1 h2
 obtain ⟨c1, c2, _, _, u, u1, u2, u3⟩ := missC_mem hw hc
 obtain ⟨s, hs, h5, h6⟩ := memS_iff.1 h1
 have hal := alignedB_iff.1 (List.all_eq_true.1 (hB.look (grpOf b.groups p) k).2.2 s hs)
 have := cell_in (sizeI_cases k) hal.1 hal.2 c1 h3 (by omega) h5 h6
 have hku := known_look hk (memS_iff.2 ⟨s, hs, show s.f ≤ u by omega, show u < s.t by omega⟩)
 rw [hku] at u3
 cases u3
theorem totalD_sum (g : Int) (l : List Se) : totalD g l = (l.map (termD g)).sum := by
 induction l with
 | nil => rfl
 | cons s l ih => rw [totalD, List.map_cons, List.sum_cons, ih]
theorem total_addS {l : List Se} (h : l.Pairwise keyLt) {g g0 k : Int} {cs : List Sp} (hN : Normal (lookD l g0 k)) : totalD g (addS l g0 k cs) + (if g = g0 then countL (sizeI k) (lookD l g0 k) else 0) = totalD g l + (if g = g0 then countL (sizeI k) (unionD (lookD l g0 k) cs) else 0) := by
 unfold addS
 split
 ·rename_i he
  have : lookD l g0 k = [] := hN.ext Normal.nil fun t => by
   have h1 := unionD_mem (lookD l g0 k) cs t
   rw [he, memS_nil] at h1
   rw [memS_nil]
   cases hm : memS (lookD l g0 k) t with
   | false => rfl
   | true => rw [hm] at h1; cases h1
  rw [he, this]
 ·have h1 := insE_sum (termD g) (fun c => if g = g0 then countL (sizeI k) c else 0) (by simp [countL]) ⟨g0, k, unionD (lookD l g0 k) cs⟩ (fun y hy => by
   have e1 : y.group = g0 := congrArg Prod.fst hy
   have e2 : y.grain = k := congrArg Prod.snd hy
   unfold termD
   rw [e1, e2]
   by_cases e : g = g0
   ·rw [if_pos e, if_pos e.symm]
   ·rw [if_neg e, if_neg fun e' => e e'.symm]) l h
  rw [totalD_sum, totalD_sum]
  simp only at h1
  rw [h1]
  unfold termD
  by_cases e : g = g0
  ·rw [if_pos e, if_pos e.symm]
  ·rw [if_neg e, if_neg fun e' => e e'.symm]
theorem total_ask {b : Bu} (hB : OkB b) {p k : Int} {w : Sp} (hk : 1 ≤ k ∧ k ≤ 4) (hw : OkW k w) (g : Int) : totalD g (askB b p k w).spent = totalD g b.spent + if g = grpOf b.groups p then costQ b p k w else 0 := by
 have h1 := total_addS hB.ord (g := g) (g0 := grpOf b.groups p) (k := k) (cs := missQ b p k w) (hB.look _ _).1
 have h2 := count_union (hB.whole (grpOf b.groups p) k) (missQ_whole (b := b) (p := p) hw) (miss_apart hB hk hw)
 rw [h2] at h1
 show totalD g (addS b.spent (grpOf b.groups p) k (missQ b p k w)) = _
 unfold costQ
 split <;> rename_i e
 ·rw [if_pos e, if_pos e] at h1; omega
 ·rw [if_neg e, if_neg e] at h1; omega
end Go.Proofs.YtclkibjonbhldaaGreatDoor
/- Plain lemmas of our own, no statement of the seat: the questions that are made; asked, cost. -/
namespace Go.Proofs.YtclkibjonbhldaaGreatDoor
set_option linter.unusedSimpArgs false
set_option linter.unusedVariables false
open Go.Proofs.YtclkibjonbhldaaGreatDoor.Vc
theorem rIndex (x n : Int) (h : 1 ≤ n ∧ n ≤ 1000) (R : RO) : CallsR Tryz.prog 13 [.int .i64 x, .int .i64 n] R fun _ v => v = .int .i64 (x % n) := by
 refine callsT mix Tryz.func13 comp13 (by simp [Tryz.ntmps13]) ?_; simp only [go_sem, ↓reduceIte, nQ1, nQ2, nQ3, nQ4, nQ5, nQ6, reduceCtorEq, vc13, rs13]
 have h1 := tmod_fix x n h.1
 have h2 := tmod_bd x n h.1
 refine ⟨by omega, fun h => ⟨_, W.in64 (by omega), ?_⟩, fun h => ?_⟩
 ·rw [if_pos h] at h1; rw [h1]
 ·rw [if_neg h] at h1; rw [h1]
structure Dd where
 alias : Bool
 person : Int
 other : Int
 grain : Int
 day : Int
 half : Int
 length : Int
def Dd.cells (d : Dd) : List Value := [.bool d.alias, .int .i64 d.person, .int .i64 d.other, .int .i64 d.grain, .int .i64 d.day, .int .i64 d.half, .int .i64 d.length]
def DdV (R : RO) (v : Value) (ds : List Dd) : Prop := SlK R v 7 (ds.map Dd.cells) ∧ ds.length ≤ 4398046511104
theorem DdV.form {R : RO} {v : Value} {xs : List Dd} (h : DdV R v xs) : ∃ a cap, v = .slice a xs.length cap ∧ xs.length ≤ cap ∧ ∀ i (hi : i < xs.length), ∃ ad, a = some ad ∧ ∀ j u, (xs[i].cells)[j]? = some u → R ((ad.add (i * 7)).add j) u := by
 obtain ⟨⟨a, cap, rfl, hc, hf⟩, _⟩ := h
 rw [List.length_map] at hc
 refine ⟨a, cap, by rw [List.length_map], hc, fun i hi => ?_⟩
 obtain ⟨_, ad, ha, hR⟩ := hf i (xs[i].cells) (by rw [List.getElem?_map, List.getElem?_eq_getElem hi]; rfl)
 exact ⟨ad, ha, hR⟩
structure Qn where
 person : Int
 grain : Int
 w : Sp
def Qn.val (q : Qn) : Value := .agg #[.int .i64 q.person, .int .i64 q.grain, .int .i64 q.w.f, .int .i64 q.w.t]
def fromQ (d : Dd) : Int := if sizeI (1 + d.grain % 4) < 1440 then d.day % 4 * 1440 + d.half % 48 * 30 else d.day % 4 * 1440
def toQ (d : Dd) : Int := if 1 + d.grain % 4 = 1 then fromQ d + 1440 * (1 + d.length % 3) else fromQ d + sizeI (1 + d.grain % 4) * (1 + d.length % 40)
def madeQ (d : Dd) : Qn := ⟨d.person % 6, 1 + d.grain % 4, ⟨fromQ d, toQ d⟩⟩
set_option maxHeartbeats 1000000 in
theorem rMadeQ (d : Dd) (R : RO) : CallsR Tryz.prog 14 [.agg d.cells.toArray] R fun _ v => v = (madeQ d).val := by
 simp only [Dd.cells, madeQ, Qn.val]
 refine callsT mix Tryz.func14 comp14 (by simp [Tryz.ntmps14]) ?_; simp only [go_sem, ↓reduceIte, nQ1, nQ2, nQ3, nQ4, nQ5, nQ6, reduceCtorEq, vc14, rs14]
 refine vcall (rIndex d.person 6 (by omega) R) ?_
 rintro R1 v h1 rfl
 try simp only [go_sem, ↓reduceIte, nQ1, nQ2, nQ3, nQ4, nQ5, nQ6, reduceCtorEq, iQ1, iQ2, iQ3, iQ4, iQ5, iQ6]
 refine vcall (rIndex d.grain 4 (by omega) R1) ?_
 rintro R2 v h2 rfl
 try simp only [go_sem, ↓reduceIte, nQ1, nQ2, nQ3, nQ4, nQ5, nQ6, reduceCtorEq, iQ1, iQ2, iQ3, iQ4, iQ5, iQ6]
 refine ⟨_, W.in64 (by omega), ?_⟩
 try simp only [go_sem, ↓reduceIte, nQ1, nQ2, nQ3, nQ4, nQ5, nQ6, reduceCtorEq, iQ1, iQ2, iQ3, iQ4, iQ5, iQ6]
 refine vcall (rSize (1 + d.grain % 4) R2) ?_
 rintro R3 v h3 rfl
 try simp only [go_sem, ↓reduceIte, nQ1, nQ2, nQ3, nQ4, nQ5, nQ6, reduceCtorEq, iQ1, iQ2, iQ3, iQ4, iQ5, iQ6]
 refine vcall (rIndex d.day 4 (by omega) R3) ?_
 rintro R4 v h4 rfl
 try simp only [go_sem, ↓reduceIte, nQ1, nQ2, nQ3, nQ4, nQ5, nQ6, reduceCtorEq, iQ1, iQ2, iQ3, iQ4, iQ5, iQ6]
 refine ⟨_, W.in64 (by omega), ?_⟩
 have hprod : 0 ≤ sizeI (1 + d.grain % 4) * (1 + d.length % 40) ∧ sizeI (1 + d.grain % 4) * (1 + d.length % 40) ≤ 57600 := by
  rcases sizeI_cases (1 + d.grain % 4) with e | e | e <;> rw [e] <;> omega
 refine ⟨fun hlt => ?_, fun hge => ?_⟩
 ·have hf : fromQ d = d.day % 4 * 1440 + d.half % 48 * 30 := by unfold fromQ; rw [if_pos hlt]
  refine vcall (rIndex d.half 48 (by omega) R4) ?_
  rintro R5 v h5 rfl
  try simp only [go_sem, ↓reduceIte, nQ1, nQ2, nQ3, nQ4, nQ5, nQ6, reduceCtorEq, iQ1, iQ2, iQ3, iQ4, iQ5, iQ6]
  refine ⟨_, W.in64 (by omega), ?_⟩
  try simp only [go_sem, ↓reduceIte, nQ1, nQ2, nQ3, nQ4, nQ5, nQ6, reduceCtorEq, iQ1, iQ2, iQ3, iQ4, iQ5, iQ6]
  refine ⟨_, W.in64 (by omega), ?_⟩
  try simp only [go_sem, ↓reduceIte, nQ1, nQ2, nQ3, nQ4, nQ5, nQ6, reduceCtorEq, iQ1, iQ2, iQ3, iQ4, iQ5, iQ6]
  refine vcall (rIndex d.length 40 (by omega) R5) ?_
  rintro R6 v h6 rfl
  try simp only [go_sem, ↓reduceIte, nQ1, nQ2, nQ3, nQ4, nQ5, nQ6, reduceCtorEq, iQ1, iQ2, iQ3, iQ4, iQ5, iQ6]
  refine ⟨_, W.in64 (by omega), ?_⟩
  try simp only [go_sem, ↓reduceIte, nQ1, nQ2, nQ3, nQ4, nQ5, nQ6, reduceCtorEq, iQ1, iQ2, iQ3, iQ4, iQ5, iQ6]
  refine ⟨_, W.in64 (by omega), ?_⟩
  try simp only [go_sem, ↓reduceIte, nQ1, nQ2, nQ3, nQ4, nQ5, nQ6, reduceCtorEq, iQ1, iQ2, iQ3, iQ4, iQ5, iQ6]
  refine ⟨_, W.in64 (by omega), ?_⟩
  try simp only [go_sem, ↓reduceIte, nQ1, nQ2, nQ3, nQ4, nQ5, nQ6, reduceCtorEq, iQ1, iQ2, iQ3, iQ4, iQ5, iQ6]
  refine ⟨fun h1g => ?_, fun h1g => ?_⟩
  ·have ht : toQ d = fromQ d + 1440 * (1 + d.length % 3) := by unfold toQ; rw [if_pos h1g]
   rw [ht, hf]
   refine vcall (rIndex d.length 3 (by omega) R6) ?_
   rintro R7 v h7 rfl
   try simp only [go_sem, ↓reduceIte, nQ1, nQ2, nQ3, nQ4, nQ5, nQ6, reduceCtorEq, iQ1, iQ2, iQ3, iQ4, iQ5, iQ6]
   refine ⟨_, W.in64 (by omega), ?_⟩
   try simp only [go_sem, ↓reduceIte, nQ1, nQ2, nQ3, nQ4, nQ5, nQ6, reduceCtorEq, iQ1, iQ2, iQ3, iQ4, iQ5, iQ6]
   refine ⟨_, W.in64 (by omega), ?_⟩
   try simp only [go_sem, ↓reduceIte, nQ1, nQ2, nQ3, nQ4, nQ5, nQ6, reduceCtorEq, iQ1, iQ2, iQ3, iQ4, iQ5, iQ6]
   refine ⟨_, W.in64 (by omega), ?_⟩
   try simp only [go_sem, ↓reduceIte, nQ1, nQ2, nQ3, nQ4, nQ5, nQ6, reduceCtorEq, iQ1, iQ2, iQ3, iQ4, iQ5, iQ6]
  ·have ht : toQ d = fromQ d + sizeI (1 + d.grain % 4) * (1 + d.length % 40) := by unfold toQ; rw [if_neg h1g]
   rw [ht, hf]
 ·have hf : fromQ d = d.day % 4 * 1440 := by unfold fromQ; rw [if_neg hge]
  refine vcall (rIndex d.length 40 (by omega) R4) ?_
  rintro R6 v h6 rfl
  try simp only [go_sem, ↓reduceIte, nQ1, nQ2, nQ3, nQ4, nQ5, nQ6, reduceCtorEq, iQ1, iQ2, iQ3, iQ4, iQ5, iQ6]
  refine ⟨_, W.in64 (by omega), ?_⟩
  try simp only [go_sem, ↓reduceIte, nQ1, nQ2, nQ3, nQ4, nQ5, nQ6, reduceCtorEq, iQ1, iQ2, iQ3, iQ4, iQ5, iQ6]
  refine ⟨_, W.in64 (by omega), ?_⟩
  try simp only [go_sem, ↓reduceIte, nQ1, nQ2, nQ3, nQ4, nQ5, nQ6, reduceCtorEq, iQ1, iQ2, iQ3, iQ4, iQ5, iQ6]
  refine ⟨_, W.in64 (by omega), ?_⟩
  try simp only [go_sem, ↓reduceIte, nQ1, nQ2, nQ3, nQ4, nQ5, nQ6, reduceCtorEq, iQ1, iQ2, iQ3, iQ4, iQ5, iQ6]
  refine ⟨fun h1g => ?_, fun h1g => ?_⟩
  ·have ht : toQ d = fromQ d + 1440 * (1 + d.length % 3) := by unfold toQ; rw [if_pos h1g]
   rw [ht, hf]
   refine vcall (rIndex d.length 3 (by omega) R6) ?_
   rintro R7 v h7 rfl
   try simp only [go_sem, ↓reduceIte, nQ1, nQ2, nQ3, nQ4, nQ5, nQ6, reduceCtorEq, iQ1, iQ2, iQ3, iQ4, iQ5, iQ6]
   refine ⟨_, W.in64 (by omega), ?_⟩
   try simp only [go_sem, ↓reduceIte, nQ1, nQ2, nQ3, nQ4, nQ5, nQ6, reduceCtorEq, iQ1, iQ2, iQ3, iQ4, iQ5, iQ6]
   refine ⟨_, W.in64 (by omega), ?_⟩
   try simp only [go_sem, ↓reduceIte, nQ1, nQ2, nQ3, nQ4, nQ5, nQ6, reduceCtorEq, iQ1, iQ2, iQ3, iQ4, iQ5, iQ6]
   refine ⟨_, W.in64 (by omega), ?_⟩
   try simp only [go_sem, ↓reduceIte, nQ1, nQ2, nQ3, nQ4, nQ5, nQ6, reduceCtorEq, iQ1, iQ2, iQ3, iQ4, iQ5, iQ6]
  ·have ht : toQ d = fromQ d + sizeI (1 + d.grain % 4) * (1 + d.length % 40) := by unfold toQ; rw [if_neg h1g]
   rw [ht, hf]
theorem madeQ_ok (d : Dd) : (0 ≤ (madeQ d).person ∧ (madeQ d).person < 6) ∧ (1 ≤ (madeQ d).grain ∧ (madeQ d).grain ≤ 4) ∧ OkW (madeQ d).grain (madeQ d).w ∧ ((madeQ d).w.t - (madeQ d).w.f) / sizeI (madeQ d).grain ≤ 40 ∧ 0 ≤ (madeQ d).w.f ∧ (madeQ d).w.t ≤ 100000 := by
 have e1 : (madeQ d).person = d.person % 6 := rfl
 have e2 : (madeQ d).grain = 1 + d.grain % 4 := rfl
 have e3 : (madeQ d).w = ⟨fromQ d, toQ d⟩ := rfl
 rw [e1, e2, e3]
 have hf : fromQ d = if sizeI (1 + d.grain % 4) < 1440 then d.day % 4 * 1440 + d.half % 48 * 30 else d.day % 4 * 1440 := rfl
 have ht : toQ d = if 1 + d.grain % 4 = 1 then fromQ d + 1440 * (1 + d.length % 3) else fromQ d + sizeI (1 + d.grain % 4) * (1 + d.length % 40) := rfl
 have hs : sizeI (1 + d.grain % 4) = if 1 + d.grain % 4 = 1 then 1440 else if 1 + d.grain % 4 = 2 ∨ 1 + d.grain % 4 = 3 then 30 else 1 := rfl
 have key : (fromQ d < toQ d ∧ 0 ≤ fromQ d ∧ toQ d ≤ 100000) ∧ (fromQ d % sizeI (1 + d.grain % 4) = 0 ∧ toQ d % sizeI (1 + d.grain % 4) = 0) ∧ (toQ d - fromQ d) / sizeI (1 + d.grain % 4) ≤ 40 := by
  rcases (by omega : 1 + d.grain % 4 = 1 ∨ 1 + d.grain % 4 = 2 ∨ 1 + d.grain % 4 = 3 ∨ 1 + d.grain % 4 = 4) with e | e | e | e <;> rw [e] at hf ht hs ⊢ <;> simp only [show sizeI 1 = 1440 from rfl, show sizeI 2 = 30 from rfl, show sizeI 3 = 30 from rfl, show sizeI 4 = 1 from rfl] at hf ht ⊢ <;> simp at hf ht <;> omega
 obtain ⟨⟨k1, k2, k3⟩, k4, k5⟩ := key
 exact ⟨by omega, by omega, ⟨k1, show -2251799813685248 ≤ fromQ d by omega, show toQ d ≤ 2251799813685248 by omega, alignedB_iff.2 k4⟩, k5, k2, k3⟩
set_option maxHeartbeats 1000000 in
theorem rAsked (b : Bu) (hr : RawB b) (q : Qn) (v : Value) (R : RO) (hz : SzR R) (h : BuV R v b) : CallsR Tryz.prog 15 [v, q.val] R fun R' r => AskV (newR R R') r b q.person q.grain q.w := by
 have hA := fun R' hle => bAsk b hr q.person q.grain q.w v R' (SzR.mono (R' := R') hz hle) (BuV.mono (R' := R') h hle)
 obtain ⟨gv, sv, rfl, hg, hs⟩ := h
 simp only [Qn.val, Sp.cells] at hA ⊢
 refine callsT mix Tryz.func15 comp15 (by simp [Tryz.ntmps15]) ?_; simp only [go_sem, ↓reduceIte, nQ1, nQ2, nQ3, nQ4, nQ5, nQ6, reduceCtorEq, vc15, rs15]
 refine vcall (hA R (RO.le_refl _)) ?_
 intro R1 r hle1 hv
 rcases hv with ⟨h1, rfl⟩ | ⟨h1, h2, rfl⟩ | ⟨h1, h2, bv, rfl, hb⟩
 ·simp only [zeroBu]
  try simp only [go_sem, ↓reduceIte, nQ1, nQ2, nQ3, nQ4, nQ5, nQ6, reduceCtorEq]
  exact .inl ⟨h1, rfl⟩
 ·simp only [zeroBu]
  try simp only [go_sem, ↓reduceIte, nQ1, nQ2, nQ3, nQ4, nQ5, nQ6, reduceCtorEq]
  exact .inr (.inl ⟨h1, h2, rfl⟩)
 ·obtain ⟨gv', sv', rfl, hg', hs'⟩ := hb
  obtain ⟨-, ga, gc, rfl, -, -⟩ := hg'.form
  obtain ⟨-, sa, sc, rfl, -, -⟩ := hs'.form
  try simp only [go_sem, ↓reduceIte, nQ1, nQ2, nQ3, nQ4, nQ5, nQ6, reduceCtorEq]
  exact .inr (.inr ⟨h1, h2, _, rfl, _, _, rfl, hg', hs'⟩)
theorem AskV.mono {R R' : RO} {r : Value} {b : Bu} {p k : Int} {w : Sp} (h : AskV R r b p k w) (hle : RO.le R R') : AskV R' r b p k w := by
 rcases h with h | h | ⟨h1, h2, bv, h3, h4⟩
 ·exact Or.inl h
 ·exact Or.inr (Or.inl h)
 ·exact Or.inr (Or.inr ⟨h1, h2, bv, h3, h4.mono hle⟩)
end Go.Proofs.YtclkibjonbhldaaGreatDoor
/- Plain lemmas of our own, no statement of the seat: what was asked costs nothing; sanity. -/
namespace Go.Proofs.YtclkibjonbhldaaGreatDoor
set_option linter.unusedSimpArgs false
set_option linter.unusedVariables false
open Go.Proofs.YtclkibjonbhldaaGreatDoor.Vc
theorem miss_none {k : Int} {K : Int → Bool} {w : Sp} (hw : OkW k w) (h : ∀ t, w.f ≤ t → t < w.t → K t = true) : missC (sizeI k) K w = [] := by
 cases hm : missC (sizeI k) K w with
 | nil => rfl
 | cons c l =>
  obtain ⟨_, _, h1, h2, t, h3, h4, h5⟩ := missC_mem (K := K) hw (c := c) (by rw [hm]; simp)
  rw [h t (by omega) (by omega)] at h5
  cases h5
theorem cost_none {b : Bu} {p k : Int} {w : Sp} (hw : OkW k w) (h : ∀ t, w.f ≤ t → t < w.t → memS (knownD b.spent (grpOf b.groups p) k) t = true) : missQ b p k w = [] ∧ costQ b p k w = 0 := by
 have : missQ b p k w = [] := by unfold missQ missD; rw [miss_none hw h]; rfl
 refine ⟨this, ?_⟩
 unfold costQ
 rw [this]; rfl
theorem cell_of {k : Int} {w : Sp} (hw : OkW k w) {t : Int} (h1 : w.f ≤ t) (h2 : t < w.t) : ∃ c ∈ cellsW (sizeI k) w, c.f ≤ t ∧ t < c.t := by
 have hali := alignedB_iff.1 hw.ali
 have hp := hw.pos
 have hn := sizeI_pos k
 have e1 := Int.emod_nonneg t (show sizeI k ≠ 0 by omega)
 have e2 := Int.emod_lt_of_pos t hn
 refine ⟨⟨t - t % sizeI k, t - t % sizeI k + sizeI k⟩, (cellsW_mem hn hali.1 hali.2 (by omega)).2 ⟨?_, rfl, ?_, ?_⟩, show t - t % sizeI k ≤ t by omega, show t < t - t % sizeI k + sizeI k by omega⟩
 ·show (t - t % sizeI k) % sizeI k = 0
  rcases sizeI_cases k with e | e | e <;> rw [e] <;> omega
 ·show w.f ≤ t - t % sizeI k
  have := hali.1
  rcases sizeI_cases k with e | e | e <;> rw [e] at this ⊢ <;> omega
 ·show t - t % sizeI k + sizeI k ≤ w.t
  have := hali.2
  rcases sizeI_cases k with e | e | e <;> rw [e] at this ⊢ <;> omega
theorem knownS_mem (l : List Se) (g k t : Int) : memS (knownD l g k) t = true ↔ ∃ j : Nat, j < (5 - k).toNat ∧ view l g (k + j) t = true := by
 unfold knownD
 rw [normD_mem, knownL_mem]
theorem known_ask {b : Bu} (hB : OkB b) {p k : Int} {w : Sp} (hk : 1 ≤ k ∧ k ≤ 4) (hw : OkW k w) (g k' t : Int) : memS (knownD (askB b p k w).spent g k') t = (memS (knownD b.spent g k') t || (decide (g = grpOf b.groups p ∧ k' ≤ k) && memS (missQ b p k w) t)) := by
 rw [Bool.eq_iff_iff, Bool.or_eq_true, knownS_mem, knownS_mem, Bool.and_eq_true, decide_eq_true_eq]
 have hv := fun g' k'' => view_addS hB.ord (g := grpOf b.groups p) (k := k) (cs := missQ b p k w) g' k'' t
 constructor
 ·rintro ⟨j, hj, h⟩
  have h := (hv g (k' + j)).symm.trans h
  split at h
  ·rename_i e
   have e1 : g = grpOf b.groups p := congrArg Prod.fst e
   have e2 : k' + j = k := congrArg Prod.snd e
   rcases Bool.or_eq_true _ _ ▸ h with h | h
   ·exact .inl ⟨j, hj, by rw [e1, e2]; exact h⟩
   ·exact .inr ⟨⟨e1, by omega⟩, h⟩
  ·exact .inl ⟨j, hj, h⟩
 ·rintro (⟨j, hj, h⟩ | ⟨⟨h1, h2⟩, h3⟩)
  ·refine ⟨j, hj, (hv g (k' + j)).trans ?_⟩
   split
   ·rename_i e
    have e1 : g = grpOf b.groups p := congrArg Prod.fst e
    have e2 : k' + j = k := congrArg Prod.snd e
    rw [e1, e2] at h
    rw [h]; rfl
   ·exact h
  ·refine ⟨(k - k').toNat, by omega, (hv g (k' + (k - k').toNat)).trans ?_⟩
   rw [if_pos (by rw [h1, show k' + ((k - k').toNat : Int) = k by omega]), h3, Bool.or_true]
theorem known_win {b : Bu} (hB : OkB b) {p k : Int} {w : Sp} (hk : 1 ≤ k ∧ k ≤ 4) (hw : OkW k w) {t : Int} (h1 : w.f ≤ t) (h2 : t < w.t) : memS (knownD (askB b p k w).spent (grpOf b.groups p) k) t = true := by
 rw [known_ask hB hk hw, Bool.or_eq_true, Bool.and_eq_true, decide_eq_true_eq]
 obtain ⟨c, hc, h3, h4⟩ := cell_of hw h1 h2
 by_cases hcov : covered (sizeI k) (memS (knownD b.spent (grpOf b.groups p) k)) c = true
 ·have hali := alignedB_iff.1 hw.ali
  have hp := hw.pos
  have c2 := ((cellsW_mem (sizeI_pos k) hali.1 hali.2 (by omega)).1 hc).2.1
  exact .inl ((covered_iff (sizeI_pos k) c2).1 hcov t h3 h4)
 ·refine .inr ⟨⟨rfl, Int.le_refl _⟩, ?_⟩
  unfold missQ missD
  rw [normD_mem]
  exact memS_iff.2 ⟨c, List.mem_filter.2 ⟨hc, by simpa using hcov⟩, h3, h4⟩
/-! ### Sanity -/
def s1 : Bu := ⟨50, [[3, 5]], []⟩
def s2 : Bu := askB s1 3 1 ⟨0, 2880⟩
def s3 : Bu := askB s2 5 2 ⟨0, 1440⟩
theorem s2_spent : s2.spent = [⟨0, 1, [⟨0, 2880⟩]⟩] := by decide +kernel
theorem s3_spent : s3.spent = [⟨0, 1, [⟨0, 2880⟩]⟩, ⟨0, 2, [⟨0, 1440⟩]⟩] := by decide +kernel
theorem s1_ok : OkB s1 := by
 refine ⟨by decide, ⟨fun i hi => ?_, by decide⟩, by simp [s1], List.Pairwise.nil⟩
 have : i = 0 := by simp [s1] at hi; omega
 subst this
 show OkG s1.groups 0 [3, 5]
 exact ⟨by decide, by unfold Inc; decide, by decide⟩
theorem w_ok {k : Int} {w : Sp} (h1 : w.f < w.t) (h2 : -2251799813685248 ≤ w.f) (h3 : w.t ≤ 2251799813685248) (h4 : alignedB w (sizeI k) = true) : OkW k w := ⟨h1, h2, h3, h4⟩
theorem w1_ok : OkW 1 ⟨0, 2880⟩ := w_ok (by decide) (by decide) (by decide) (by decide)
theorem w2_ok : OkW 2 ⟨0, 1440⟩ := w_ok (by decide) (by decide) (by decide) (by decide)
theorem w3_ok : OkW 1 ⟨2880, 4320⟩ := w_ok (by decide) (by decide) (by decide) (by decide)
theorem w4_ok : OkW 4 ⟨0, 65537⟩ := w_ok (by decide) (by decide) (by decide) (by decide)
theorem s2_ok : OkB s2 := s1_ok.ask (by decide) (by decide) w1_ok
theorem s3_ok : OkB s3 := s2_ok.ask (by decide) (by decide) w2_ok
theorem s1_raw : RawB s1 := s1_ok.raw ⟨by decide, by decide⟩
theorem s2_raw : RawB s2 := s2_ok.raw ⟨by rw [s2_spent]; decide, by rw [s2_spent]; decide⟩
theorem s3_raw : RawB s3 := s3_ok.raw ⟨by rw [s3_spent]; decide, by rw [s3_spent]; decide⟩
theorem check_of {b : Bu} (hB : OkB b) {p k : Int} {w : Sp} (hp : personB p = true) (hk : 1 ≤ k ∧ k ≤ 4) (hw : OkW k w) (hc : (w.t - w.f) / sizeI k ≤ 65536) : checkI b p k w = 0 := checkI_zero.2 ⟨⟨okB_iff.2 hB, hp, hk, hw⟩, hc⟩
theorem sa_ok : OkB (aliasB s3 3 4) := s3_ok.alias (by decide) (by decide)
theorem sa_raw : RawB (aliasB s3 3 4) := sa_ok.raw (aliasB_bd ⟨by rw [s3_spent]; decide, by rw [s3_spent]; decide⟩)
theorem sa_len : (aliasB s3 3 4).groups.length = 1 := by
 rw [aliasB_diff (by decide), joinG_eq]
 rw [if_neg (by decide), gs2D_len]
 decide
theorem sa_grp : grpOf (aliasB s3 3 4).groups 4 = 0 := by
 rw [aliasB_diff (by decide)]
 obtain ⟨k1, k2⟩ := kg_gone (gs := s3.groups) (p := 3) (q := 4) (by decide) (by decide)
 refine (grpOf_join s3_ok.groups (kg_of (by decide) (by decide) (by decide)) k1 k2 (by decide)).trans ?_
 decide
theorem ask_yes {R : RO} {r : Value} {b : Bu} {p k : Int} {w : Sp} (h : AskV R r b p k w) (h1 : checkI b p k w = 0) (h2 : ¬ b.limit < totalD (grpOf b.groups p) b.spent + costQ b p k w) : ∃ ga gc sa sc, r = .tuple #[.agg #[.int .i64 b.limit, .slice ga b.groups.length gc, .slice sa (askB b p k w).spent.length sc], .int .i64 0] ∧ BuV R (.agg #[.int .i64 b.limit, .slice ga b.groups.length gc, .slice sa (askB b p k w).spent.length sc]) (askB b p k w) := by
 rcases h with ⟨h, _⟩ | ⟨_, h, _⟩ | ⟨_, _, bv, rfl, gv, sv, rfl, hg, hs⟩
 ·exact absurd h1 h
 ·exact absurd h h2
 ·obtain ⟨-, ga, gc, rfl, -, -⟩ := hg.form
  obtain ⟨-, sa, sc, rfl, -, -⟩ := hs.form
  exact ⟨ga, gc, sa, sc, rfl, _, _, rfl, hg, hs⟩
theorem ask_no {R : RO} {r : Value} {b : Bu} {p k : Int} {w : Sp} (h : AskV R r b p k w) (h1 : checkI b p k w = 0) (h2 : b.limit < totalD (grpOf b.groups p) b.spent + costQ b p k w) : r = .tuple #[zeroBu, .int .i64 13] := by
 rcases h with ⟨h, _⟩ | ⟨_, _, h⟩ | ⟨_, h, _⟩
 ·exact absurd h1 h
 ·exact h
 ·exact absurd h2 h
theorem alias_yes {R : RO} {r : Value} {b : Bu} {p q : Int} (h : AliasV R r b p q (okB b)) (hB : OkB b) (hp : personB p = true) (hq : personB q = true) : ∃ ga gc sa sc, r = .tuple #[.agg #[.int .i64 b.limit, .slice ga (aliasB b p q).groups.length gc, .slice sa (aliasB b p q).spent.length sc], .int .i64 0] ∧ BuV R (.agg #[.int .i64 b.limit, .slice ga (aliasB b p q).groups.length gc, .slice sa (aliasB b p q).spent.length sc]) (aliasB b p q) := by
 unfold AliasV at h
 rw [if_pos ⟨okB_iff.2 hB, hp, hq⟩] at h
 obtain ⟨bv, rfl, gv, sv, rfl, hg, hs⟩ := h
 have hl : (aliasB b p q).limit = b.limit := by unfold aliasB; split <;> rfl
 rw [hl]
 obtain ⟨-, ga, gc, rfl, -, -⟩ := hg.form
 obtain ⟨-, sa, sc, rfl, -, -⟩ := hs.form
 exact ⟨ga, gc, sa, sc, rfl, _, _, by rw [hl], hg, hs⟩
theorem c1_cost : costV s1 3 1 ⟨0, 2880⟩ = .tuple #[.int .i64 2, .int .i64 0] := by
 unfold costV
 rw [check_of s1_ok (by decide) (by decide) w1_ok (by decide), if_pos rfl, show costQ s1 3 1 ⟨0, 2880⟩ = 2 by decide +kernel]
theorem c2_cost : costV s2 5 1 ⟨0, 2880⟩ = .tuple #[.int .i64 0, .int .i64 0] := by
 unfold costV
 rw [check_of s2_ok (by decide) (by decide) w1_ok (by decide), if_pos rfl]
 rw [(cost_none (b := s2) (p := 5) w1_ok fun t h1 h2 => known_win s1_ok (p := 3) (by decide) w1_ok h1 h2).2]
theorem c3_cost : costV s1 3 4 ⟨0, 65537⟩ = .tuple #[.int .i64 0, .int .i64 2] := by
 have : checkI s1 3 4 ⟨0, 65537⟩ = 2 := by rw [checkI_yes ⟨okB_iff.2 s1_ok, by decide, by decide, w4_ok⟩]; decide
 unfold costV
 rw [this]; rfl
set_option maxHeartbeats 4000000 in
theorem lSanity (R : RO) (hz : SzR R) : CallsR Tryz.prog 12 [] R fun _ v => v = .bool true := by
 refine callsT mix Tryz.func12 comp12 (by simp [Tryz.ntmps12]) ?_; simp only [go_sem, ↓reduceIte, nQ1, nQ2, nQ3, nQ4, nQ5, nQ6, reduceCtorEq, vc12, rs12]
 intro b1 cap1 R1 hle1 hrow1 hcap1 hfr1 b2 cap2 R2 hle2 hrow2 hcap2 hfr2
 have hz2 := hz.mono (RO.le_trans hle1 hle2)
 have hI : IntV R2 (.slice (some ⟨b1, 0, none⟩) 2 cap1) [3, 5] := (RowIn.enc (enc := fun x : Int => [Value.int .i64 x]) (k := 1) (xs := [3, 5]) (fun _ => rfl) (by omega) hrow1 (show 2 ≤ cap1 * 1 by omega) (by decide)).mono hle2
 have hG : GV R2 (.slice (some ⟨b2, 0, none⟩) 1 cap2) [[3, 5]] := HsV.gv (hs := [.slice (some ⟨b1, 0, none⟩) 2 cap1]) ⟨rfl, fun i h1 h2 => by
  have : i = 0 := by simp at h2; omega
  subst this
  exact hI⟩ (rowV hrow2 (show 1 ≤ cap2 * 1 by omega) (show 1 ≤ 1000000000 by decide))
 have hB1 : BuV R2 (.agg #[.int .i64 50, .slice (some ⟨b2, 0, none⟩) 1 cap2, .slice none 0 0]) s1 := ⟨_, _, rfl, hG, SpentV.nil _⟩
 refine vcall (bCost s1 s1_raw 3 1 ⟨0, 2880⟩ _ R2 hz2 hB1) ?_
 rintro R3 v hle3 rfl
 rw [c1_cost]
 try simp only [go_sem, ↓reduceIte, nQ1, nQ2, nQ3, nQ4, nQ5, nQ6, reduceCtorEq]
 have hz3 := hz2.mono hle3
 refine vcall (bAsk s1 s1_raw 3 1 ⟨0, 2880⟩ _ R3 hz3 (hB1.mono hle3)) ?_
 intro R4 v hle4 hv
 obtain ⟨ga, gc, sa, sc, rfl, hB2⟩ := ask_yes (hv.mono newR_le) (check_of s1_ok (by decide) (by decide) w1_ok (by decide)) (by decide +kernel)
 try simp only [go_sem, ↓reduceIte, nQ1, nQ2, nQ3, nQ4, nQ5, nQ6, reduceCtorEq]
 have hz4 := hz3.mono hle4
 refine vcall (bCost s2 s2_raw 5 1 ⟨0, 2880⟩ _ R4 hz4 hB2) ?_
 rintro R5 v hle5 rfl
 rw [c2_cost]
 try simp only [go_sem, ↓reduceIte, nQ1, nQ2, nQ3, nQ4, nQ5, nQ6, reduceCtorEq]
 have hz5 := hz4.mono hle5
 refine vcall (bAsk s2 s2_raw 5 2 ⟨0, 1440⟩ _ R5 hz5 (hB2.mono hle5)) ?_
 intro R6 v hle6 hv
 obtain ⟨ga3, gc3, sa3, sc3, rfl, hB3⟩ := ask_yes (hv.mono newR_le) (check_of s2_ok (by decide) (by decide) w2_ok (by decide)) (by decide +kernel)
 try simp only [go_sem, ↓reduceIte, nQ1, nQ2, nQ3, nQ4, nQ5, nQ6, reduceCtorEq]
 have hz6 := hz5.mono hle6
 refine vcall (bAsk s3 s3_raw 3 1 ⟨2880, 4320⟩ _ R6 hz6 hB3) ?_
 intro R7 v hle7 hv
 obtain rfl := ask_no hv (check_of s3_ok (by decide) (by decide) w3_ok (by decide)) (by decide +kernel)
 simp only [zeroBu]
 try simp only [go_sem, ↓reduceIte, nQ1, nQ2, nQ3, nQ4, nQ5, nQ6, reduceCtorEq]
 have hz7 := hz6.mono hle7
 refine vcall (bCost s1 s1_raw 3 4 ⟨0, 65537⟩ _ R7 hz7 (hB1.mono (RO.le_trans hle3 (RO.le_trans hle4 (RO.le_trans hle5 (RO.le_trans hle6 hle7)))))) ?_
 rintro R8 v hle8 rfl
 rw [c3_cost]
 try simp only [go_sem, ↓reduceIte, nQ1, nQ2, nQ3, nQ4, nQ5, nQ6, reduceCtorEq]
 have hz8 := hz7.mono hle8
 have hB38 := hB3.mono (RO.le_trans hle7 hle8)
 refine vcall (bAlias s3 s3_raw 3 4 _ R8 hz8 hB38) ?_
 intro R9 v hle9 hv
 obtain ⟨ga4, gc4, sa4, sc4, rfl, hB4⟩ := alias_yes hv s3_ok (by decide) (by decide)
 have hB4 := hB4.mono newR_le
 try simp only [go_sem, ↓reduceIte, nQ1, nQ2, nQ3, nQ4, nQ5, nQ6, reduceCtorEq]
 have hz9 := hz8.mono hle9
 refine ⟨fun hl => ?_, fun hl => absurd (by rw [sa_len]; rfl) hl⟩
 refine vcall (bGroup _ sa_raw 4 _ R9 hz9 hB4) ?_
 rintro R10 v hle10 rfl
 rw [show grpB (aliasB s3 3 4) 4 (okB (aliasB s3 3 4)) = 0 by unfold grpB; rw [if_pos ⟨okB_iff.2 sa_ok, by decide⟩, sa_grp]]
 try simp only [go_sem, ↓reduceIte, nQ1, nQ2, nQ3, nQ4, nQ5, nQ6, reduceCtorEq]
 have hz10 := hz9.mono hle10
 refine vcall (bGroup s3 s3_raw 4 _ R10 hz10 (hB38.mono (RO.le_trans hle9 hle10))) ?_
 rintro R11 v hle11 rfl
 rw [show grpB s3 4 (okB s3) = -5 by unfold grpB; rw [if_pos ⟨okB_iff.2 s3_ok, by decide⟩]; decide]
 try simp only [go_sem, ↓reduceIte, nQ1, nQ2, nQ3, nQ4, nQ5, nQ6, reduceCtorEq]
 refine vcall (bValid _ sa_raw _ R11 (hz10.mono hle11) (hB4.mono (RO.le_trans hle10 hle11))) ?_
 rintro R12 v hle12 rfl
 rw [okB_iff.2 sa_ok]
 try simp only [go_sem, ↓reduceIte, nQ1, nQ2, nQ3, nQ4, nQ5, nQ6, reduceCtorEq]
end Go.Proofs.YtclkibjonbhldaaGreatDoor
namespace Go.Proofs.YtclkibjonbhldaaGreatDoor
set_option linter.unusedSimpArgs false
set_option linter.unusedVariables false
open Go.Proofs.YtclkibjonbhldaaGreatDoor.Vc
structure Bx where
 b : Bu
 ga : Option Addr
 gc : Nat
 sa : Option Addr
 sc : Nat
abbrev Bx.cells (x : Bx) : List Value := [.int .i64 x.b.limit, .slice x.ga x.b.groups.length x.gc, .slice x.sa x.b.spent.length x.sc]
structure BxV (R : RO) (x : Bx) : Prop where
 val : BuV R (.agg x.cells.toArray) x.b
theorem BxV.mono {R R' : RO} {x : Bx} (h : BxV R x) (hle : RO.le R R') : BxV R' x := ⟨h.val.mono hle⟩
theorem BxV.of {R : RO} {l : Int} {b : Bu} {ga sa : Option Addr} {gc sc : Nat} (h : BuV R (.agg #[.int .i64 l, .slice ga b.groups.length gc, .slice sa b.spent.length sc]) b) : BxV R ⟨b, ga, gc, sa, sc⟩ := by
 have hl := h.groups.1
 subst hl
 exact ⟨h⟩
structure LimI (n : Nat) (b : Bu) : Prop where
 ok : OkB b
 sz : SzB b n (40 * n)
 tot : ∀ g, totalD g b.spent ≤ b.limit
theorem person6 {p : Int} (h0 : 0 ≤ p) (h1 : p < 6) : personB p = true := by unfold personB; simp; omega
theorem LimI.raw {n : Nat} {b : Bu} (h : LimI n b) (hn : n ≤ 20) : RawB b := h.ok.raw (h.sz.mono (by omega) (by omega))
theorem okB_empty {l : Int} (h0 : 0 ≤ l) (h1 : l ≤ 200) : OkB ⟨l, [], []⟩ := ⟨⟨h0, show l ≤ 2251799813685248 by omega⟩, ⟨fun i hi => absurd hi (Nat.not_lt_zero i), Nat.zero_le _⟩, fun s hs => absurd hs (List.not_mem_nil), List.Pairwise.nil⟩
theorem aliasB_limit {b : Bu} {p q : Int} : (aliasB b p q).limit = b.limit := by unfold aliasB; split <;> rfl
theorem LimI.next {n : Nat} {b : Bu} (h : LimI n b) : LimI (n + 1) b := ⟨h.ok, h.sz.mono (by omega) (by omega), h.tot⟩
theorem LimI.ask {n : Nat} {b : Bu} (h : LimI n b) {p k : Int} {w : Sp} (hp : personB p = true) (hk : 1 ≤ k ∧ k ≤ 4) (hw : OkW k w) (hc : (w.t - w.f) / sizeI k ≤ 40) (hl : ¬ b.limit < totalD (grpOf b.groups p) b.spent + costQ b p k w) : LimI (n + 1) (askB b p k w) := by
 refine ⟨h.ok.ask hp hk hw, (askB_bd h.ok hw h.sz (c := 40) (by omega)).mono (Nat.le_refl _) (by omega), fun g => ?_⟩
 rw [total_ask h.ok hk hw]
 show _ ≤ b.limit
 have := h.tot g
 split
 ·rename_i e; rw [e]; omega
 ·omega
end Go.Proofs.YtclkibjonbhldaaGreatDoor
namespace Go.Proofs.YtclkibjonbhldaaGreatDoor
set_option linter.unusedSimpArgs false
set_option linter.unusedVariables false
open Go.Proofs.YtclkibjonbhldaaGreatDoor.Vc
theorem EncV.cut {α : Type} {enc : α → List Value} {k : Nat} {R : RO} {a : Option Addr} {n cap : Nat} {xs : List α} (h : EncV enc k R (.slice a n cap) xs) {lo hi : Nat} (h1 : lo ≤ hi) (h2 : hi ≤ xs.length) (hk : ∀ x, (enc x).length = k) : EncV enc k R (.slice (if cap = lo then a else a.map (·.add (lo * k))) (hi - lo) (cap - lo)) ((xs.take hi).drop lo) := by
 have hxl := h.2
 have hlen : ((xs.take hi).drop lo).length = hi - lo := by simp; omega
 obtain ⟨a0, cap0, e, hc, hf⟩ := h.form
 simp only [Value.slice.injEq] at e
 obtain ⟨rfl, rfl, rfl⟩ := e
 refine ⟨⟨_, _, by rw [List.length_map, hlen], by rw [List.length_map, hlen]; omega, fun i us hi' => ?_⟩, by rw [hlen]; omega⟩
 rw [List.getElem?_map] at hi'
 obtain ⟨x, hx, rfl⟩ := Option.map_eq_some_iff.1 hi'
 have hil : i < hi - lo := by rw [← hlen]; exact (List.getElem?_eq_some_iff.1 hx).1
 rw [List.getElem?_drop, List.getElem?_take, if_pos (by omega)] at hx
 obtain ⟨hx1, rfl⟩ := List.getElem?_eq_some_iff.1 hx
 obtain ⟨ad, rfl, hR⟩ := hf (lo + i) hx1
 refine ⟨hk _, ad.add (lo * k), ?_, fun j u hj => ?_⟩
 ·rw [if_neg (by omega)]; rfl
 ·have := hR j u hj
  rwa [add_add ad (lo * k), ← Nat.add_mul]
theorem flatI : ∀ xs : List Int, (xs.map fun x : Int => [Value.int .i64 x]).flatten = xs.map (.int .i64)
 | [] => rfl
 | x :: l => by rw [List.map_cons, List.flatten_cons, flatI l]; rfl
theorem IntV.src {b : List Blk} {R : RO} {a : Option Addr} {n cap : Nat} {xs : List Int} (h : IntV R (.slice a n cap) xs) (hn : n = xs.length) {kk : List Value → Prop} {t : Tok kk} (hkk : kk (xs.map (.int .i64))) : SrcP (allR b R) 1 a n kk t :=
 EncV.src h hn (by omega) (fun _ => rfl) (by simp [Value.oneCell']) (by rw [flatI]; exact hkk)
theorem IntV.cut {R : RO} {a : Option Addr} {n cap : Nat} {xs : List Int} (h : IntV R (.slice a n cap) xs) {lo hi : Nat} (h1 : lo ≤ hi) (h2 : hi ≤ xs.length) : IntV R (.slice (if cap = lo then a else a.map (fun x => x.add lo)) (hi - lo) (cap - lo)) ((xs.take hi).drop lo) := by
 have := EncV.cut (enc := fun x : Int => [Value.int .i64 x]) (k := 1) h h1 h2 (fun _ => rfl)
 simpa only [Nat.mul_one] using this
set_option maxHeartbeats 1000000 in
theorem rIns (l : List Int) (x : Int) (hl : l.length ≤ 100000000) (v : Value) (R : RO) (h : IntV R v l) : CallsR Tryz.prog 85 [v, .int .i64 x] R fun R' r => IntV R' r (insI l x) := by
 have hale := insK_le l x
 have h0 := h
 obtain ⟨hxl, a, cap, rfl, hc, hf⟩ := h.form
 refine callsT mix Tryz.func85 comp85 (by simp [Tryz.ntmps85]) ?_; simp only [go_sem, ↓reduceIte, nQ1, nQ2, nQ3, nQ4, nQ5, nQ6, reduceCtorEq, vc85, rs85]
 refine cutL (fun s' => ∃ env R1, s' = ⟨env, [], R1⟩ ∧ RO.le R R1 ∧ env 5 = .val (.int .i64 (insK l x)) ∧ env 0 = .val (.slice a l.length cap) ∧ env 1 = .val (.int .i64 x)) ?_ ?_
 ·refine vcLoop Nat (fun k => [(5, .val (.int .i64 k)), (0, .val (.slice a l.length cap)), (1, .val (.int .i64 x))]) (fun _ => []) (fun k _ => k ≤ insK l x) (fun k => l.length - k) 0 ?_ ?_ ?_ ?_
  ·(try simp only [go_sem, ↓reduceIte, nQ1, nQ2, nQ3, nQ4, nQ5, nQ6, reduceCtorEq]) <;> (repeat' (first | rfl | trivial | constructor | (intro h; exact absurd rfl h)))
  ·try simp only [go_sem, ↓reduceIte, nQ1, nQ2, nQ3, nQ4, nQ5, nQ6, reduceCtorEq]
  ·exact Nat.zero_le _
  rintro k env R1 hle1 hE hk
  (simp only [go_sem] at hE; obtain ⟨e5, e0, e1⟩ := hE; simp only [go_sem, ↓reduceIte, nQ1, nQ2, nQ3, nQ4, nQ5, nQ6, reduceCtorEq, e5, e0, e1]; dsimp only at *)
  refine ⟨fun hkl => ?_, fun hkg => ?_⟩
  ·have hkn : k < l.length := by omega
   obtain ⟨ad, had, hR⟩ := hf k hkn
   refine ⟨by omega, vat ad had ?_⟩
   try simp only [go_sem, ↓reduceIte, nQ1, nQ2, nQ3, nQ4, nQ5, nQ6, reduceCtorEq]
   refine vload _ (hle1 _ _ hR) ?_
   simp only [go_sem, ↓reduceIte, nQ1, nQ2, nQ3, nQ4, nQ5, nQ6, reduceCtorEq, e5, e0, e1]
   refine ⟨fun h1 => ?_, fun h1 => ?_⟩
   ·refine ⟨_, W.in64 (by omega), k + 1, by omega, rfl, ?_⟩
    rcases Nat.lt_or_ge k (insK l x) with h2 | h2
    ·exact h2
    ·obtain rfl : k = insK l x := by omega
     exact absurd h1 (insK_not hkn)
   ·have : k = insK l x := by
     rcases Nat.lt_or_ge k (insK l x) with h2 | h2
     ·exact absurd (insK_less h2 hkn) h1
     ·omega
    rw [← this]
    exact ⟨_, _, rfl, hle1, e5, e0, e1⟩
  ·have : k = insK l x := by omega
   rw [← this]
   exact ⟨_, _, rfl, hle1, e5, e0, e1⟩
 rintro s' ⟨env, R1, rfl, hle1, e5, e0, e1⟩
 have hI := insI_eq l x
 obtain ⟨k, hk⟩ : ∃ k, k = insK l x := ⟨_, rfl⟩
 rw [← hk] at e5 hale hI
 rw [tCode_seq]
 refine cutT (fun s' => ∃ env R2, s' = ⟨env, [], R2⟩ ∧ RO.le R R2 ∧ l[k]? ≠ some x ∧ env 5 = .val (.int .i64 k) ∧ env 0 = .val (.slice a l.length cap) ∧ env 1 = .val (.int .i64 x)) ?_ ?_
 ·try simp only [go_sem, ↓reduceIte, nQ1, nQ2, nQ3, nQ4, nQ5, nQ6, reduceCtorEq, e5, e0, e1]
  refine ⟨fun hkl => ?_, fun hkg => ⟨_, _, rfl, hle1, by rw [List.getElem?_eq_none (by omega)]; simp, e5, e0, e1⟩⟩
  have hkn : k < l.length := by omega
  obtain ⟨ad, had, hR⟩ := hf k hkn
  refine ⟨by omega, vat ad had ?_⟩
  try simp only [go_sem, ↓reduceIte, nQ1, nQ2, nQ3, nQ4, nQ5, nQ6, reduceCtorEq]
  refine vload _ (hle1 _ _ hR) ?_
  simp only [go_sem, ↓reduceIte, nQ1, nQ2, nQ3, nQ4, nQ5, nQ6, reduceCtorEq, e5, e0, e1]
  refine ⟨fun h1 => ?_, fun h1 => ⟨_, _, rfl, hle1, by rw [List.getElem?_eq_getElem hkn]; simpa using h1, e5, e0, e1⟩⟩
  rw [if_pos (by rw [List.getElem?_eq_getElem hkn, h1])] at hI
  rw [hI]
  exact h0.mono hle1
 rintro s' ⟨env, R2, rfl, hle2, hnk, e5, e0, e1⟩
 rw [if_neg hnk] at hI
 try simp only [go_sem, ↓reduceIte, nQ1, nQ2, nQ3, nQ4, nQ5, nQ6, reduceCtorEq, e5, e0, e1]
 have hpre := (IntV.cut h0 (Nat.zero_le k) hale).mono hle2
 have hpost := (IntV.cut h0 hale (Nat.le_refl _)).mono hle2
 rw [List.drop_zero] at hpre
 rw [List.take_length] at hpost
 refine ⟨0, k, rfl, rfl, by omega, by omega, ?_⟩
 refine IntV.src hpre (by simp; omega) ?_
 try simp only [go_sem, ↓reduceIte, nQ1, nQ2, nQ3, nQ4, nQ5, nQ6, reduceCtorEq, e5, e0, e1]
 refine vappO [] rfl rfl (by omega) ?_
 try simp only [go_sem, ↓reduceIte, nQ1, nQ2, nQ3, nQ4, nQ5, nQ6, reduceCtorEq, e5, e0, e1]
 refine vappO ((l.take k).map (.int .i64)) rfl (by simp; omega) (by omega) ?_
 try simp only [go_sem, ↓reduceIte, nQ1, nQ2, nQ3, nQ4, nQ5, nQ6, reduceCtorEq, e5, e0, e1]
 refine ⟨k, l.length, rfl, rfl, by omega, by omega, ?_⟩
 refine IntV.src hpost (by simp) ?_
 try simp only [go_sem, ↓reduceIte, nQ1, nQ2, nQ3, nQ4, nQ5, nQ6, reduceCtorEq, e5, e0, e1]
 refine vappO ((l.take k).map (.int .i64) ++ [.int .i64 x]) rfl (by simp; omega) (by omega) ?_
 try simp only [go_sem, ↓reduceIte, nQ1, nQ2, nQ3, nQ4, nQ5, nQ6, reduceCtorEq, e5, e0, e1]
 have hlen : k - 0 + 1 + (l.length - k) = (l.take k ++ x :: l.drop k).length := by simp; omega
 have hcs : (l.take k).map (.int .i64) ++ [.int .i64 x] ++ (l.drop k).map (.int .i64) = ((l.take k ++ x :: l.drop k).map fun x : Int => [Value.int .i64 x]).flatten := by rw [flatI]; simp
 rw [hlen, hcs]
 intro b2 cap2 R3 hle3 hrow hcap hfr
 rw [hI]
 exact RowIn.enc (enc := fun x : Int => [Value.int .i64 x]) (k := 1) (fun _ => rfl) (by omega) hrow (by rw [flatI, List.length_map, ← hlen]; simp at hcap; omega) (by rw [← hlen]; omega)
set_option maxHeartbeats 1000000 in
theorem rCheck (b : Bu) (hr : RawB b) (q : Qn) (v : Value) (R : RO) (h : BuV R v b) : CallsR Tryz.prog 32 [v, q.val] R fun _ r => r = .int .i64 (checkI b q.person q.grain q.w) := by
 have hV := fun R' hle => rValid b hr v R' (BuV.mono (R' := R') h hle)
 obtain ⟨gv, sv, rfl, hg, hs⟩ := h
 simp only [Qn.val]
 obtain ⟨p, k, ⟨f, t⟩⟩ := q
 have hbad : ¬ OkQ b p k ⟨f, t⟩ → Value.int .i64 1 = Value.int .i64 (checkI b p k ⟨f, t⟩) := fun hn => by rw [checkI_no hn]
 refine callsT mix Tryz.func32 comp32 (by simp [Tryz.ntmps32]) ?_; simp only [go_sem, ↓reduceIte, nQ1, nQ2, nQ3, nQ4, nQ5, nQ6, reduceCtorEq, vc32, rs32]
 refine vcall (hV R (RO.le_refl _)) ?_
 rintro R1 r hle1 rfl
 try simp only [go_sem, ↓reduceIte, nQ1, nQ2, nQ3, nQ4, nQ5, nQ6, reduceCtorEq]
 refine ⟨fun h1 => ?_, fun h1 => hbad fun hO => by rw [hO.1] at h1; cases h1⟩
 refine vcall (rPerson p R1) ?_
 rintro R2 r hle2 rfl
 try simp only [go_sem, ↓reduceIte, nQ1, nQ2, nQ3, nQ4, nQ5, nQ6, reduceCtorEq]
 refine ⟨fun h2 => ?_, fun h2 => hbad fun hO => by rw [hO.2.1] at h2; cases h2⟩
 refine ⟨fun h3 => ⟨fun h4 => ⟨fun h5 => ?_, fun h5 => hbad fun hO => by have := hO.2.2.2.pos; simp only at this; omega⟩, fun h4 => hbad fun hO => by have := hO.2.2.1; omega⟩, fun h3 => hbad fun hO => by have := hO.2.2.1; omega⟩
 refine vcall (bFar2 f R2) ?_
 rintro R3 r hle3 rfl
 try simp only [go_sem, ↓reduceIte, nQ1, nQ2, nQ3, nQ4, nQ5, nQ6, reduceCtorEq]
 refine ⟨fun h6 => ?_, fun h6 => hbad fun hO => ?_⟩
 ·refine vcall (bFar2 t R3) ?_
  rintro R4 r hle4 rfl
  try simp only [go_sem, ↓reduceIte, nQ1, nQ2, nQ3, nQ4, nQ5, nQ6, reduceCtorEq]
  have far_bad : ∀ x, farB x = true → x < -2251799813685248 ∨ 2251799813685248 < x := fun x hx => by
   unfold farB at hx
   simpa only [Bool.or_eq_true, decide_eq_true_eq] using hx
  have hf1 : ¬ (f < -2251799813685248 ∨ 2251799813685248 < f) := fun hx => by
   have : farB f = true := by unfold farB; simpa only [Bool.or_eq_true, decide_eq_true_eq] using hx
   rw [h6] at this; cases this
  refine ⟨fun h7 => ?_, fun h7 => hbad fun hO => ?_⟩
  ·have ht1 : ¬ (t < -2251799813685248 ∨ 2251799813685248 < t) := fun hx => by
    have : farB t = true := by unfold farB; simpa only [Bool.or_eq_true, decide_eq_true_eq] using hx
    rw [h7] at this; cases this
   have hn := sizeI_one k
   refine ⟨?_, ?_⟩
   all_goals
    refine vcall (rSize k R4) ?_
    rintro R5 r hle5 rfl
    try simp only [go_sem, ↓reduceIte, nQ1, nQ2, nQ3, nQ4, nQ5, nQ6, reduceCtorEq]
    refine vfreeze ?_
    try simp only [go_sem, ↓reduceIte, nQ1, nQ2, nQ3, nQ4, nQ5, nQ6, reduceCtorEq]
    intro b2 cap2 R6 hle6 hrow6 hcap6 hfr6
    have hwv : SpV R6 (.slice (some ⟨b2, 0, none⟩) 1 cap2) [⟨f, t⟩] := RowIn.enc (xs := [⟨f, t⟩]) (enc := Sp.cells) (k := 2) (fun _ => rfl) (by omega) hrow6 hcap6 (by simp)
    refine vcall (rAligned [⟨f, t⟩] (sizeI k) (sizeI_pos k) _ R6 hwv) ?_
    rintro R7 r hle7 rfl
    try simp only [go_sem, ↓reduceIte, nQ1, nQ2, nQ3, nQ4, nQ5, nQ6, reduceCtorEq]
    refine ⟨fun h8 => hbad fun hO => (by have h9 := hO.2.2.2.ali; (try simp only [List.all_cons, List.all_nil, Bool.and_true] at h8); rw [h8] at h9; cases h9), fun h8 => ?_⟩
    have h8' : alignedB ⟨f, t⟩ (sizeI k) = true := by simpa only [List.all_cons, List.all_nil, Bool.and_true] using h8
    have hQ : OkQ b p k ⟨f, t⟩ := ⟨h1, h2, by omega, ⟨show f < t by omega, show -2251799813685248 ≤ f by omega, show t ≤ 2251799813685248 by omega, h8'⟩⟩
    rw [checkI_yes hQ]
    refine ⟨_, W.in64 (by omega), ?_⟩
    try simp only [go_sem, ↓reduceIte, nQ1, nQ2, nQ3, nQ4, nQ5, nQ6, reduceCtorEq]
    refine vcall (rSize k R7) ?_
    rintro R8 r hle8 rfl
    try simp only [go_sem, ↓reduceIte, nQ1, nQ2, nQ3, nQ4, nQ5, nQ6, reduceCtorEq]
    rw [tdiv_nonneg' (by omega) (by omega)]
    have hd := ediv_le_self' (a := t - f) (n := sizeI k) (by omega) hn.1
    exact ⟨by omega, _, W.in64 (by omega), fun h => by rw [if_pos h], fun h => by rw [if_neg h]⟩
  ·have := far_bad _ h7
   have := hO.2.2.2.lo
   have := hO.2.2.2.hi
   have := hO.2.2.2.pos
   simp only at *
   omega
 ·have : f < -2251799813685248 ∨ 2251799813685248 < f := by
   unfold farB at h6
   simpa only [Bool.or_eq_true, decide_eq_true_eq] using h6
  have := hO.2.2.2.lo
  have := hO.2.2.2.hi
  have := hO.2.2.2.pos
  simp only at *
  omega
end Go.Proofs.YtclkibjonbhldaaGreatDoor
namespace Go.Proofs.YtclkibjonbhldaaGreatDoor
set_option linter.unusedSimpArgs false
set_option linter.unusedVariables false
open Go.Proofs.YtclkibjonbhldaaGreatDoor.Vc
def missP (n : Int) (K : Int → Bool) (w : Sp) (j : Nat) : List Sp := ((cellsW n w).take j).filter fun c => !covered n K c
theorem missP_zero (n : Int) (K : Int → Bool) (w : Sp) : missP n K w 0 = [] := rfl
theorem missP_all {n : Int} {K : Int → Bool} {w : Sp} {N : Nat} (h : N = ((w.t - w.f) / n).toNat) : missP n K w N = missC n K w := by
 unfold missP missC
 rw [List.take_of_length_le (by rw [cellsW_len]; omega)]
theorem missP_succ {n : Int} {K : Int → Bool} {w : Sp} {j : Nat} (h : j < ((w.t - w.f) / n).toNat) : missP n K w (j + 1) = missP n K w j ++ (if covered n K ⟨w.f + j * n, w.f + j * n + n⟩ = true then [] else [⟨w.f + j * n, w.f + j * n + n⟩]) := by
 unfold missP
 have hl : j < (cellsW n w).length := by rw [cellsW_len]; exact h
 have hg : (cellsW n w)[j] = ⟨w.f + j * n, w.f + j * n + n⟩ := by simp [cellsW]
 rw [List.take_succ_eq_append_getElem hl, List.filter_append, hg]
 congr 1
 by_cases hc : covered n K ⟨w.f + j * n, w.f + j * n + n⟩ = true <;> simp [hc]
theorem missP_len (n : Int) (K : Int → Bool) (w : Sp) (j : Nat) : (missP n K w j).length ≤ ((w.t - w.f) / n).toNat := by
 unfold missP
 refine Nat.le_trans (List.length_filter_le _ _) ?_
 rw [List.length_take, cellsW_len]
 omega
theorem minus_cell {n : Int} {K : Int → Bool} {c : Sp} {zs : List Sp} (hn : 0 < n) (hc : c.t = c.f + n) (hz : Normal zs) (hm : ∀ t, memS zs t = (memS [c] t && !K t)) : zs = [] ↔ covered n K c = true := by
 rw [covered_iff hn hc]
 constructor
 ·rintro rfl t h1 h2
  have := hm t
  rw [memS_nil, show memS [c] t = true from memS_iff.2 ⟨c, by simp, h1, h2⟩] at this
  cases hk : K t with
  | true => rfl
  | false => rw [hk] at this; cases this
 ·intro h
  refine hz.ext Normal.nil fun t => ?_
  rw [hm, memS_nil]
  cases hk : memS [c] t with
  | false => rfl
  | true =>
   obtain ⟨x, hx, h1, h2⟩ := memS_iff.1 hk
   simp only [List.mem_cons, List.not_mem_nil, or_false] at hx
   subst hx
   rw [h t h1 h2]; rfl
set_option maxHeartbeats 2000000 in
theorem rMissing (b : Bu) (hB : OkB b) (hr : RawB b) (q : Qn) (hp : personB q.person = true) (hw : OkW q.grain q.w) (hcnt : (q.w.t - q.w.f) / sizeI q.grain ≤ 65536) (v : Value) (R : RO) (h : BuV R v b) :
  CallsR Tryz.prog 37 [v, q.val] R fun R' r => SpV R' r (missC (sizeI q.grain) (memS (knownD b.spent (grpOf b.groups q.person) q.grain)) q.w) := by
 have hK := fun g R' hle => rKnownBy b hB hr g q.grain v R' (BuV.mono (R' := R') h hle)
 obtain ⟨gv, sv, rfl, hg, hs⟩ := h
 have hgf := hg.form
 have hsf := hs.form
 obtain ⟨-, ga, gc, rfl, -, -⟩ := hgf
 obtain ⟨-, sa, sc, rfl, -, -⟩ := hsf
 simp only [Qn.val] at *
 obtain ⟨p, k, ⟨f, t⟩⟩ := q
 simp only at *
 have hn := sizeI_one k
 have hpos := hw.pos
 have hlo := hw.lo
 have hhi := hw.hi
 have hali := alignedB_iff.1 hw.ali
 simp only at hpos hlo hhi hali
 obtain ⟨N, hN⟩ : ∃ N : Nat, N = ((t - f) / sizeI k).toNat := ⟨_, rfl⟩
 have hdiv : sizeI k * ((t - f) / sizeI k) = t - f := Int.mul_ediv_cancel' (Int.dvd_sub (Int.dvd_of_emod_eq_zero hali.2) (Int.dvd_of_emod_eq_zero hali.1))
 have hq0 : 0 ≤ (t - f) / sizeI k := Int.ediv_nonneg (by omega) (by omega)
 have hNi : (N : Int) = (t - f) / sizeI k := by omega
 obtain ⟨n, hne⟩ : ∃ n, n = sizeI k := ⟨_, rfl⟩
 rw [← hne] at hn hdiv hNi hN hcnt ⊢
 rw [← hNi] at hdiv
 have hmul : ∀ j : Nat, j ≤ N → (j : Int) * n ≤ t - f := fun j hj => by
  rw [← hdiv, Int.mul_comm]
  exact Int.mul_le_mul_of_nonneg_left (by omega) (by omega)
 have hmul0 : ∀ j : Nat, 0 ≤ (j : Int) * n := fun j => Int.mul_nonneg (by omega) (by omega)
 refine callsT mix Tryz.func37 comp37 (by simp [Tryz.ntmps37]) ?_; simp only [go_sem, ↓reduceIte, nQ1, nQ2, nQ3, nQ4, nQ5, nQ6, reduceCtorEq, vc37, rs37]
 refine vcall (rGroupOf b.groups p (personB_bd hp) _ R hg) ?_
 rintro R1 r hle1 rfl
 try simp only [go_sem, ↓reduceIte, nQ1, nQ2, nQ3, nQ4, nQ5, nQ6, reduceCtorEq]
 refine vcall (hK (grpOf b.groups p) R1 hle1) ?_
 intro R2 kv hle2 hkv
 obtain ⟨Kd, hKd⟩ : ∃ Kd, Kd = knownD b.spent (grpOf b.groups p) k := ⟨_, rfl⟩
 rw [← hKd] at hkv ⊢
 obtain ⟨ka, kcap, rfl, -, -⟩ := hkv.form
 try simp only [go_sem, ↓reduceIte, nQ1, nQ2, nQ3, nQ4, nQ5, nQ6, reduceCtorEq]
 refine vcLoopR Nat (fun j => [(7, .val (.int .i64 (f + j * n))), (5, .sl 2 (missP n (memS Kd) ⟨f, t⟩ j).length), (6, .val (.slice ka Kd.length kcap)), (3, .loc 1 0)]) (fun j => [.box [.val (.int .i64 b.limit), .val (.slice ga b.groups.length gc), .val (.slice sa b.spent.length sc)], .box [.val (.int .i64 p), .val (.int .i64 k), .val (.int .i64 f), .val (.int .i64 t)], .row 32 2 (rowS (missP n (memS Kd) ⟨f, t⟩ j))]) (fun j _ => j ≤ N) (fun j => N - j) 0 [] ?_ ?_ ?_ ?_
 ·rw [missP_zero]
  simp only [Int.natCast_zero, Int.zero_mul, Int.add_zero]
  (try simp only [go_sem, ↓reduceIte, nQ1, nQ2, nQ3, nQ4, nQ5, nQ6, reduceCtorEq]) <;> (repeat' (first | rfl | trivial | constructor | (intro h; exact absurd rfl h)))
 ·try simp only [go_sem, ↓reduceIte, nQ1, nQ2, nQ3, nQ4, nQ5, nQ6, reduceCtorEq]
 ·exact Nat.zero_le _
 rintro j env R3 hle3 hE hj
 (simp only [go_sem] at hE; obtain ⟨e7, e5, e6, e3⟩ := hE; simp only [go_sem, ↓reduceIte, nQ1, nQ2, nQ3, nQ4, nQ5, nQ6, reduceCtorEq, e7, e5, e6, e3]; dsimp only at *)
 have hj0 := hmul j hj
 have hj1 := hmul0 j
 refine ⟨fun hlt => ?_, fun hge => ?_⟩
 ·have hjN : j < N := by
   rcases Nat.lt_or_ge j N with h1 | h1
   ·exact h1
   ·obtain rfl : j = N := by omega
    rw [Int.mul_comm, hdiv] at hlt
    omega
  have hj2 := hmul (j + 1) hjN
  have hjs : ((j + 1 : Nat) : Int) * n = (j : Int) * n + n := by rw [Int.natCast_add, Int.add_mul]; simp
  rw [hjs] at hj2
  have hsuc := missP_succ (K := memS Kd) (w := ⟨f, t⟩) (n := n) (j := j) (by show j < ((t - f) / n).toNat; omega)
  have hml := missP_len n (memS Kd) ⟨f, t⟩ j
  refine vcall (rSize k R3) ?_
  rintro R4 r hle4 rfl
  rw [← hne]
  simp only [go_sem, ↓reduceIte, nQ1, nQ2, nQ3, nQ4, nQ5, nQ6, reduceCtorEq, e7, e5, e6, e3]
  refine ⟨_, W.in64 (by omega), ?_⟩
  refine vfreeze ?_
  simp only [go_sem, ↓reduceIte, nQ1, nQ2, nQ3, nQ4, nQ5, nQ6, reduceCtorEq, e7, e5, e6, e3]
  intro b2 cap2 R5 hle5 hrow5 hcap5 hfr5
  obtain ⟨c, hc⟩ : ∃ c : Sp, c = ⟨f + j * n, f + j * n + n⟩ := ⟨_, rfl⟩
  have hcv : SpV R5 (.slice (some ⟨b2, 0, none⟩) 1 cap2) [c] := by subst hc; exact RowIn.enc (enc := Sp.cells) (k := 2) (xs := [⟨f + j * n, f + j * n + n⟩]) (fun _ => rfl) (by omega) hrow5 hcap5 (by simp)
  refine vcall (rCombine 2 [c] Kd _ _ R5 hcv (hkv.mono (RO.le_trans hle3 (RO.le_trans hle4 hle5))) ?_) ?_
  ·have h1 := gath_len b.spent (grpOf b.groups p) k fun s hs => (hr.spent s hs).len
   have h2 := hr.len
   have h3 := normD_len (gathD b.spent (grpOf b.groups p) k)
   rw [gath_known hB.keys hB.grains, ← hKd] at h3
   rw [List.length_singleton]
   omega
  rintro R6 r hle6 ⟨zs, hzv, hzn, hzm, hzl⟩
  obtain ⟨za, zcap, rfl, -, -⟩ := hzv.form
  simp only [go_sem, ↓reduceIte, nQ1, nQ2, nQ3, nQ4, nQ5, nQ6, reduceCtorEq, e7, e5, e6, e3]
  have hmc := minus_cell (K := memS Kd) (c := c) (n := n) (by omega) (by rw [hc]) hzn fun t => by rw [hzm]; rfl
  rw [hc] at hmc
  simp only at hsuc hml
  refine ⟨fun hz => ?_, fun hz => ?_⟩
  ·have hcov : ¬ covered n (memS Kd) ⟨f + j * n, f + j * n + n⟩ = true := fun e => by rw [hmc.2 e] at hz; simp at hz
   rw [if_neg hcov] at hsuc
   have hsl := congrArg List.length hsuc
   rw [List.length_append, List.length_singleton] at hsl
   refine vappO (rowS (missP n (memS Kd) ⟨f, t⟩ j)) rfl (rowS_len _) (by omega) ?_
   simp only [go_sem, ↓reduceIte, nQ1, nQ2, nQ3, nQ4, nQ5, nQ6, reduceCtorEq, e7, e5, e6, e3]
   refine vcall (rSize k R6) ?_
   rintro R7 r hle7 rfl
   rw [← hne]
   simp only [go_sem, ↓reduceIte, nQ1, nQ2, nQ3, nQ4, nQ5, nQ6, reduceCtorEq, e7, e5, e6, e3]
   refine ⟨_, W.in64 (by omega), j + 1, [0, 1, 6], by omega, ?_, by decide, by omega⟩
   rw [hsuc, hjs, ← Int.add_assoc, ← rowS_app, List.length_append]
   exact ⟨⟨rfl, rfl, rfl⟩, rfl, rfl, rfl⟩
  ·have hcov : covered n (memS Kd) ⟨f + j * n, f + j * n + n⟩ = true := hmc.1 (List.length_eq_zero_iff.1 (by omega))
   rw [if_pos hcov, List.append_nil] at hsuc
   refine vcall (rSize k R6) ?_
   rintro R7 r hle7 rfl
   rw [← hne]
   simp only [go_sem, ↓reduceIte, nQ1, nQ2, nQ3, nQ4, nQ5, nQ6, reduceCtorEq, e7, e5, e6, e3]
   refine ⟨_, W.in64 (by omega), j + 1, [], by omega, ?_, by decide, by omega⟩
   rw [hsuc, hjs, ← Int.add_assoc]
   exact ⟨⟨rfl, rfl, rfl⟩, rfl, rfl, rfl⟩
 ·have hjN : j = N := by
   rcases Nat.lt_or_ge j N with h1 | h1
   ·have hj2 := hmul (j + 1) h1
    have hjs : ((j + 1 : Nat) : Int) * n = (j : Int) * n + n := by rw [Int.natCast_add, Int.add_mul]; simp
    rw [hjs] at hj2
    omega
   ·omega
  subst hjN
  intro b2 cap2 R4 hle4 hrow hcap hfr
  rw [missP_all hN] at hrow hcap ⊢
  exact RowIn.enc (enc := Sp.cells) (k := 2) (fun _ => rfl) (by omega) hrow hcap (by
   have := missC_len (n := n) (memS Kd) ⟨f, t⟩
   simp only at this
   omega)
end Go.Proofs.YtclkibjonbhldaaGreatDoor
namespace Go.Proofs.YtclkibjonbhldaaGreatDoor
set_option linter.unusedSimpArgs false
set_option linter.unusedVariables false
open Go.Proofs.YtclkibjonbhldaaGreatDoor.Vc
def kpos (s : Se) (l : List Se) : Nat := (l.takeWhile fun y => decide (keyLt y s)).length
theorem kpos_le (s : Se) (l : List Se) : kpos s l ≤ l.length := (List.takeWhile_prefix _).length_le
theorem kpos_cons (s y : Se) (l : List Se) : kpos s (y :: l) = if keyLt y s then kpos s l + 1 else 0 := by
 unfold kpos
 rw [List.takeWhile_cons]
 by_cases h : keyLt y s <;> simp [h]
theorem kpos_less {s : Se} : ∀ {l : List Se} {i : Nat} (hi : i < l.length), i < kpos s l → keyLt l[i] s
 | y :: l, i, hi, h => by
  rw [kpos_cons] at h
  split at h
  ·cases i with
   | zero => assumption
   | succ i => exact kpos_less (l := l) (i := i) (by simpa using hi) (by omega)
  ·exact absurd h (Nat.not_lt_zero _)
theorem kpos_not {s : Se} : ∀ {l : List Se} (hi : kpos s l < l.length), ¬ keyLt l[kpos s l] s
 | y :: l, hi => by
  have hk := kpos_cons s y l
  by_cases h : keyLt y s
  ·rw [if_pos h] at hk
   simp only [hk, List.getElem_cons_succ]
   exact kpos_not (by rw [hk] at hi; simpa using hi)
  ·rw [if_neg h] at hk
   simp only [hk, List.getElem_cons_zero]
   exact h
def khere (s : Se) (l : List Se) : Prop := ∃ h : kpos s l < l.length, seKey l[kpos s l] = seKey s
theorem insE_at (s : Se) : ∀ l : List Se, (khere s l → insE s l = l.take (kpos s l) ++ s :: l.drop (kpos s l + 1)) ∧ (¬ khere s l → insE s l = l.take (kpos s l) ++ s :: l.drop (kpos s l))
 | [] => by
  refine ⟨fun ⟨h, _⟩ => absurd h (by simp), fun _ => by simp [insE, kpos]⟩
 | y :: l => by
  have ih := insE_at s l
  have hk := kpos_cons s y l
  unfold insE
  by_cases h1 : keyLt s y
  ·have h2 : ¬ keyLt y s := by unfold keyLt at *; omega
   rw [if_neg h2] at hk
   rw [if_pos h1, hk]
   refine ⟨fun ⟨_, h⟩ => ?_, fun _ => by simp⟩
   simp only [hk, List.getElem_cons_zero] at h
   exact absurd h (keyLt_ne h1).symm
  ·by_cases h2 : keyLt y s
   ·rw [if_pos h2] at hk
    rw [if_neg h1, if_pos h2, hk]
    have e : khere s (y :: l) ↔ khere s l := by
     unfold khere
     simp only [hk, List.getElem_cons_succ, List.length_cons, Nat.add_lt_add_iff_right]
    rw [e]
    refine ⟨fun h => ?_, fun h => ?_⟩
    ·rw [ih.1 h]; simp
    ·rw [ih.2 h]; simp
   ·rw [if_neg h2] at hk
    rw [if_neg h1, if_neg h2, hk]
    refine ⟨fun _ => by simp, fun h => absurd ⟨by rw [hk]; simp, ?_⟩ h⟩
    simp only [hk, List.getElem_cons_zero]
    exact (keyLt_tri h1 h2).symm
theorem khere_look {s : Se} {l : List Se} (hl : l.Pairwise keyLt) : (∀ h : khere s l, lookD l s.group s.grain = (l[kpos s l]'h.1).cells) ∧ (¬ khere s l → lookD l s.group s.grain = []) := by
 refine ⟨fun h => lookD_mem (sorted_nodup hl) (List.getElem_mem h.1) h.2, fun h => lookD_nil fun y hy e => h ?_⟩
 obtain ⟨i, hi, rfl⟩ := List.mem_iff_getElem.1 hy
 have h1 : ¬ i < kpos s l := fun hlt => by
  have := kpos_less hi hlt
  exact keyLt_ne this e
 by_cases h2 : i = kpos s l
 ·subst h2; exact ⟨hi, e⟩
 ·exfalso
  have hlt : kpos s l < i := by omega
  have h3 := List.pairwise_iff_getElem.1 hl (kpos s l) i (by omega) hi hlt
  exact kpos_not (by omega) (keyLt_key h3 e)
theorem addS_none {l : List Se} (hl : l.Pairwise keyLt) (hf : Full l) (g k : Int) : addS l g k [] = l := by
 refine view_ext (addS_sorted hl) hl (addS_full hf hl) hf fun g' k' t => ?_
 rw [view_addS hl]
 split
 ·rename_i e
  obtain ⟨rfl, rfl⟩ := Prod.mk.inj e
  rw [memS_nil, Bool.or_false]
 ·rfl
def sl3 : Value → Option Addr × Nat × Nat
 | .slice a n c => (a, n, c)
 | _ => (none, 0, 0)
theorem SpentV.pe {R : RO} {v : Value} {l : List Se} (h : SpentV R v l) : ∃ qs : List Pe, EncV Pe.cells 3 R v qs ∧ qs.map (·.1) = l ∧ ∀ q ∈ qs, SpV R q.val q.1.cells := by
 obtain ⟨ps, h1, h2, h3⟩ := h
 have hv : ∀ p ∈ ps, Pe.val (p.1, sl3 p.2) = p.2 := fun p hp => by
  obtain ⟨a, cap, e, _, _⟩ := EncV.form (h3 p hp)
  rw [e]; rfl
 refine ⟨ps.map fun p => (p.1, sl3 p.2), ⟨?_, by simpa using h1.2⟩, by rw [List.map_map]; exact h2, fun q hq => ?_⟩
 ·rw [List.map_map]
  have e : ps.map (Pe.cells ∘ fun p => (p.1, sl3 p.2)) = ps.map seCells := List.map_congr_left fun p hp => by
   show [_, _, Pe.val (p.1, sl3 p.2)] = [_, _, p.2]
   rw [hv p hp]
  rw [e]; exact h1.1
 ·obtain ⟨p, hp, rfl⟩ := List.mem_map.1 hq
  show SpV R (Pe.val (p.1, sl3 p.2)) p.1.cells
  rw [hv p hp]
  exact h3 p hp
set_option maxHeartbeats 2000000 in
theorem rAdd (l : List Se) (g k : Int) (cs : List Sp) (hl : l.Pairwise keyLt) (hf : Full l) (hll : l.length ≤ 1000000) (hlc : ∀ s ∈ l, s.cells.length ≤ 1000000) (hcl : cs.length ≤ 1000000) (hne : cs ≠ [] → unionD (lookD l g k) cs ≠ []) (v u : Value) (R : RO) (h : SpentV R v l) (h' : SpV R u cs) :
  CallsR Tryz.prog 39 [v, .agg #[.int .i64 g, .int .i64 k, u]] R fun R' r => SpentV R' r (addS l g k cs) := by
 have h0 := h
 obtain ⟨qs, hq, rfl, hqv⟩ := h.pe
 obtain ⟨a, cap, rfl, hc, hfm⟩ := hq.form
 obtain ⟨ua, ucap, rfl, -, -⟩ := h'.form
 have hqn := hq.2
 obtain ⟨s, hs⟩ : ∃ s : Se, s = ⟨g, k, unionD (lookD (qs.map (·.1)) g k) cs⟩ := ⟨_, rfl⟩
 have hkl := kpos_le s (qs.map (·.1))
 rw [List.length_map] at hkl
 obtain ⟨m, hm⟩ : ∃ m, m = kpos s (qs.map (·.1)) := ⟨_, rfl⟩
 rw [← hm] at hkl
 have hsg : s.group = g := by rw [hs]
 have hsk : s.grain = k := by rw [hs]
 refine callsT mix Tryz.func39 comp39 (by simp [Tryz.ntmps39]) ?_; simp only [go_sem, ↓reduceIte, nQ1, nQ2, nQ3, nQ4, nQ5, nQ6, reduceCtorEq, vc39, rs39]
 refine ⟨fun hc0 => ?_, fun hc0 => ?_⟩
 ·have : cs = [] := List.length_eq_zero_iff.1 (by omega)
  rw [this, addS_none hl hf]
  exact h0
 have hcn : cs ≠ [] := fun e => hc0 (by rw [e]; rfl)
 have hadd : addS (qs.map (·.1)) g k cs = insE s (qs.map (·.1)) := by unfold addS; rw [if_neg (hne hcn), hs]
 refine cutL (fun s' => ∃ env R1, s' = ⟨env, [.box [.val (.int .i64 g), .val (.int .i64 k), .val (.slice ua cs.length ucap)]], R1⟩ ∧ RO.le R R1 ∧ env 5 = .val (.int .i64 m) ∧ env 0 = .val (.slice a qs.length cap) ∧ env 3 = .loc 0 0) ?_ ?_
 ·refine vcLoop Nat (fun i => [(5, .val (.int .i64 i)), (0, .val (.slice a qs.length cap)), (3, .loc 0 0)]) (fun _ => [.box [.val (.int .i64 g), .val (.int .i64 k), .val (.slice ua cs.length ucap)]]) (fun i _ => i ≤ m) (fun i => qs.length - i) 0 ?_ ?_ ?_ ?_
  ·(try simp only [go_sem, ↓reduceIte, nQ1, nQ2, nQ3, nQ4, nQ5, nQ6, reduceCtorEq]) <;> (repeat' (first | rfl | trivial | constructor | (intro h; exact absurd rfl h)))
  ·try simp only [go_sem, ↓reduceIte, nQ1, nQ2, nQ3, nQ4, nQ5, nQ6, reduceCtorEq]
  ·exact Nat.zero_le _
  rintro i env R1 hle1 hE hi
  (simp only [go_sem] at hE; obtain ⟨e5, e0, e3⟩ := hE; simp only [go_sem, ↓reduceIte, nQ1, nQ2, nQ3, nQ4, nQ5, nQ6, reduceCtorEq, e5, e0, e3]; dsimp only at *)
  have hexit : (∀ h : i < qs.length, ¬ keyLt (qs[i]'h).1 s) → i = m := fun hn => by
   rcases Nat.lt_or_ge i m with h1 | h1
   ·have h2 : i < qs.length := by omega
    have h3 := kpos_less (s := s) (l := qs.map (·.1)) (i := i) (by simpa using h2) (by omega)
    rw [List.getElem_map] at h3
    exact absurd h3 (hn h2)
   ·omega
  refine ⟨fun hlt => ?_, fun hge => ?_⟩
  ·have hlt' : i < qs.length := by omega
   obtain ⟨ad, had, hR⟩ := hfm i hlt'
   have hR' := fun j u hj => hle1 _ _ (hR j u hj)
   have hround : keyLt qs[i].1 s → i < m := fun h1 => by
    rcases Nat.lt_or_ge i m with h2 | h2
    ·exact h2
    ·obtain rfl : i = m := by omega
     have h3 := kpos_not (s := s) (l := qs.map (·.1)) (by rw [List.length_map]; omega)
     simp only [← hm, List.getElem_map] at h3
     exact absurd h1 h3
   refine ⟨by omega, vat ad had ?_⟩
   try simp only [go_sem, ↓reduceIte, nQ1, nQ2, nQ3, nQ4, nQ5, nQ6, reduceCtorEq]
   refine vload (.int .i64 qs[i].1.group) (hR' 0 _ rfl) ?_
   simp only [go_sem, ↓reduceIte, nQ1, nQ2, nQ3, nQ4, nQ5, nQ6, reduceCtorEq, e5, e0, e3]
   refine ⟨fun h1 => ⟨by omega, vat ad had ?_⟩, fun h1 => ?_⟩
   rotate_left
   ·have := hround (.inl (by omega))
    exact ⟨_, W.in64 (by omega), i + 1, by omega, rfl, by omega⟩
   try simp only [go_sem, ↓reduceIte, nQ1, nQ2, nQ3, nQ4, nQ5, nQ6, reduceCtorEq]
   refine vload (.int .i64 qs[i].1.group) (hR' 0 _ rfl) ?_
   simp only [go_sem, ↓reduceIte, nQ1, nQ2, nQ3, nQ4, nQ5, nQ6, reduceCtorEq, e5, e0, e3]
   refine ⟨fun h2 => ⟨by omega, vat ad had ?_⟩, fun h2 => ?_⟩
   ·try simp only [go_sem, ↓reduceIte, nQ1, nQ2, nQ3, nQ4, nQ5, nQ6, reduceCtorEq]
    refine vload (.int .i64 qs[i].1.grain) (hR' 1 _ rfl) ?_
    simp only [go_sem, ↓reduceIte, nQ1, nQ2, nQ3, nQ4, nQ5, nQ6, reduceCtorEq, e5, e0, e3]
    refine ⟨fun h3 => ?_, fun h3 => ?_⟩
    ·have := hround (.inr ⟨by omega, by omega⟩)
     exact ⟨_, W.in64 (by omega), i + 1, by omega, rfl, by omega⟩
    ·obtain rfl := hexit fun _ hk => by unfold keyLt at hk; omega
     exact ⟨_, _, rfl, hle1, e5, e0, e3⟩
   ·obtain rfl := hexit fun _ hk => by unfold keyLt at hk; omega
    exact ⟨_, _, rfl, hle1, e5, e0, e3⟩
  ·obtain rfl := hexit fun h _ => by omega
   exact ⟨_, _, rfl, hle1, e5, e0, e3⟩
 rintro s' ⟨env, R1, rfl, hle1, e5, e0, e3⟩
 rw [tCode_seq]
 refine cutT (fun s' => ∃ env R2, s' = ⟨env, [.box [.val (.int .i64 g), .val (.int .i64 k), .val (.slice ua cs.length ucap)], .dead, .row 66 3 (rowP (qs.take m))], R2⟩ ∧ RO.le R R2 ∧ env 5 = .val (.int .i64 m) ∧ env 6 = .sl 2 m ∧ env 0 = .val (.slice a qs.length cap) ∧ env 3 = .loc 0 0) ?_ ?_
 ·try simp only [go_sem, ↓reduceIte, nQ1, nQ2, nQ3, nQ4, nQ5, nQ6, reduceCtorEq, e5, e0, e3]
  have hpre := (EncV.cut hq (Nat.zero_le m) hkl (fun _ => rfl)).mono hle1
  rw [List.drop_zero] at hpre
  refine ⟨0, m, rfl, rfl, by omega, by omega, ?_⟩
  refine EncV.src hpre (by simp; omega) (by omega) (fun _ => rfl) Pe.one ?_
  try simp only [go_sem, ↓reduceIte, nQ1, nQ2, nQ3, nQ4, nQ5, nQ6, reduceCtorEq, e5, e0, e3]
  refine vappO [] rfl rfl (by omega) ?_
  try simp only [go_sem, ↓reduceIte, nQ1, nQ2, nQ3, nQ4, nQ5, nQ6, reduceCtorEq, e5, e0, e3]
  exact ⟨_, _, rfl, hle1, e5, rfl, e0, e3⟩
 rintro s' ⟨env, R2, rfl, hle2, e5, e6, e0, e3⟩
 rw [tCode_seq]
 refine cutT (fun s' => ∃ env R3 za zc m', s' = ⟨env, [.box [.val (.int .i64 g), .val (.int .i64 k), .val (.slice za s.cells.length zc)], .dead, .row 66 3 (rowP (qs.take m))], R3⟩ ∧ RO.le R R3 ∧ SpV R3 (.slice za s.cells.length zc) s.cells ∧ m' ≤ qs.length ∧ insE s (qs.map (·.1)) = (qs.map (·.1)).take m ++ s :: (qs.map (·.1)).drop m' ∧
  env 5 = .val (.int .i64 (m' : Nat)) ∧ env 6 = .sl 2 m ∧ env 0 = .val (.slice a qs.length cap) ∧ env 3 = .loc 0 0) ?_ ?_
 ·try simp only [go_sem, ↓reduceIte, nQ1, nQ2, nQ3, nQ4, nQ5, nQ6, reduceCtorEq, e5, e6, e0, e3]
  have hcl' : s.cells = unionD (lookD (qs.map (·.1)) g k) cs := by rw [hs]
  have hun : lookD (qs.map (·.1)) g k = [] → s.cells = unionD cs [] := fun e => by rw [hcl', e]; unfold unionD; rw [List.nil_append, List.append_nil]
  have hkh : ∀ h : m < qs.length, khere s (qs.map (·.1)) ↔ ((qs[m]'h).1.group = g ∧ (qs[m]'h).1.grain = k) := fun h => by
   unfold khere
   simp only [← hm, List.length_map, List.getElem_map, seKey, Prod.mk.injEq, hsg, hsk]
   exact ⟨fun ⟨_, h2⟩ => h2, fun h2 => ⟨h, h2⟩⟩
  refine ⟨fun hlt => ?_, fun hge => ?_⟩
  ·have hlt' : m < qs.length := by omega
   obtain ⟨ad, had, hR⟩ := hfm m hlt'
   have hR' := fun j u hj => hle2 _ _ (hR j u hj)
   refine ⟨by omega, vat ad had ?_⟩
   try simp only [go_sem, ↓reduceIte, nQ1, nQ2, nQ3, nQ4, nQ5, nQ6, reduceCtorEq]
   refine vload (.int .i64 qs[m].1.group) (hR' 0 _ rfl) ?_
   simp only [go_sem, ↓reduceIte, nQ1, nQ2, nQ3, nQ4, nQ5, nQ6, reduceCtorEq, e5, e6, e0, e3]
   refine ⟨fun h1 => ⟨by omega, vat ad had ?_⟩, fun h1 => ?_⟩
   ·try simp only [go_sem, ↓reduceIte, nQ1, nQ2, nQ3, nQ4, nQ5, nQ6, reduceCtorEq]
    refine vload (.int .i64 qs[m].1.grain) (hR' 1 _ rfl) ?_
    simp only [go_sem, ↓reduceIte, nQ1, nQ2, nQ3, nQ4, nQ5, nQ6, reduceCtorEq, e5, e6, e0, e3]
    refine ⟨fun h2 => ⟨by omega, vat ad had ?_⟩, fun h2 => ?_⟩
    ·have hyes : khere s (qs.map (·.1)) := (hkh hlt').2 ⟨h1, h2⟩
     have hlk := (khere_look hl).1 hyes
     simp only [← hm, List.getElem_map, hsg, hsk] at hlk
     try simp only [go_sem, ↓reduceIte, nQ1, nQ2, nQ3, nQ4, nQ5, nQ6, reduceCtorEq]
     refine vload qs[m].val (hR' 2 _ rfl) ?_
     simp only [go_sem, ↓reduceIte, nQ1, nQ2, nQ3, nQ4, nQ5, nQ6, reduceCtorEq, e5, e6, e0, e3]
     have hqm := List.getElem_mem hlt'
     refine vcall (rCombine 0 qs[m].1.cells cs _ _ R2 ((hqv _ hqm).mono hle2) (h'.mono hle2) (by
      have := hlc _ (List.mem_map.2 ⟨_, hqm, rfl⟩)
      omega)) ?_
     intro R3 r hle3 hw
     have hw := CombN hw rfl
     rw [← hlk, ← hcl'] at hw
     obtain ⟨za, zc, rfl, -, -⟩ := hw.form
     simp only [go_sem, ↓reduceIte, nQ1, nQ2, nQ3, nQ4, nQ5, nQ6, reduceCtorEq, e5, e6, e0, e3]
     refine ⟨_, W.in64 (by omega), ?_⟩
     exact ⟨_, _, za, zc, m + 1, rfl, RO.le_trans hle2 hle3, hw, hlt', by rw [hm]; exact (insE_at s _).1 hyes, rfl, e6, e0, e3⟩
    ·have hno : ¬ khere s (qs.map (·.1)) := fun hh => h2 ((hkh hlt').1 hh).2
     have hlk := (khere_look hl).2 hno
     rw [hsg, hsk] at hlk
     refine vcall (rCombine 0 cs [] _ _ R2 (h'.mono hle2) (EncV.nil _ _ _) (by simp; omega)) ?_
     intro R3 r hle3 hw
     have hw := CombN hw rfl
     rw [← hun hlk] at hw
     obtain ⟨za, zc, rfl, -, -⟩ := hw.form
     simp only [go_sem, ↓reduceIte, nQ1, nQ2, nQ3, nQ4, nQ5, nQ6, reduceCtorEq, e5, e6, e0, e3]
     exact ⟨_, _, za, zc, m, rfl, RO.le_trans hle2 hle3, hw, hkl, by rw [hm]; exact (insE_at s _).2 hno, e5, e6, e0, e3⟩
   ·have hno : ¬ khere s (qs.map (·.1)) := fun hh => h1 ((hkh hlt').1 hh).1
    have hlk := (khere_look hl).2 hno
    rw [hsg, hsk] at hlk
    refine vcall (rCombine 0 cs [] _ _ R2 (h'.mono hle2) (EncV.nil _ _ _) (by simp; omega)) ?_
    intro R3 r hle3 hw
    have hw := CombN hw rfl
    rw [← hun hlk] at hw
    obtain ⟨za, zc, rfl, -, -⟩ := hw.form
    simp only [go_sem, ↓reduceIte, nQ1, nQ2, nQ3, nQ4, nQ5, nQ6, reduceCtorEq, e5, e6, e0, e3]
    exact ⟨_, _, za, zc, m, rfl, RO.le_trans hle2 hle3, hw, hkl, by rw [hm]; exact (insE_at s _).2 hno, e5, e6, e0, e3⟩
  ·have hno : ¬ khere s (qs.map (·.1)) := fun ⟨hh, _⟩ => by rw [List.length_map] at hh; omega
   have hlk := (khere_look hl).2 hno
   rw [hsg, hsk] at hlk
   refine vcall (rCombine 0 cs [] _ _ R2 (h'.mono hle2) (EncV.nil _ _ _) (by simp; omega)) ?_
   intro R3 r hle3 hw
   have hw := CombN hw rfl
   rw [← hun hlk] at hw
   obtain ⟨za, zc, rfl, -, -⟩ := hw.form
   simp only [go_sem, ↓reduceIte, nQ1, nQ2, nQ3, nQ4, nQ5, nQ6, reduceCtorEq, e5, e6, e0, e3]
   exact ⟨_, _, za, zc, m, rfl, RO.le_trans hle2 hle3, hw, hkl, by rw [hm]; exact (insE_at s _).2 hno, e5, e6, e0, e3⟩
 rintro s' ⟨env, R3, za, zc, m', rfl, hle3, hsv, hm', hins, e5, e6, e0, e3⟩
 try simp only [go_sem, ↓reduceIte, nQ1, nQ2, nQ3, nQ4, nQ5, nQ6, reduceCtorEq, e5, e6, e0, e3]
 refine vappO (rowP (qs.take m)) rfl (by rw [rowP_len]; simp; omega) (by omega) ?_
 try simp only [go_sem, ↓reduceIte, nQ1, nQ2, nQ3, nQ4, nQ5, nQ6, reduceCtorEq, e5, e6, e0, e3]
 have hpost := (EncV.cut hq hm' (Nat.le_refl _) (fun _ => rfl)).mono hle3
 rw [List.take_length] at hpost
 refine ⟨m', qs.length, rfl, rfl, by omega, by omega, ?_⟩
 refine EncV.src hpost (by simp) (by omega) (fun _ => rfl) Pe.one ?_
 try simp only [go_sem, ↓reduceIte, nQ1, nQ2, nQ3, nQ4, nQ5, nQ6, reduceCtorEq, e5, e6, e0, e3]
 refine vappO (rowP (qs.take m) ++ [.int .i64 g, .int .i64 k, .slice za s.cells.length zc]) rfl (by rw [List.length_append, rowP_len]; simp; omega) (by omega) ?_
 try simp only [go_sem, ↓reduceIte, nQ1, nQ2, nQ3, nQ4, nQ5, nQ6, reduceCtorEq, e5, e6, e0, e3]
 intro b2 cap2 R4 hle4 hrow hcap hfr
 obtain ⟨x, hx⟩ : ∃ x : Pe, x = (s, za, s.cells.length, zc) := ⟨_, rfl⟩
 have hxr : [Value.int .i64 g, .int .i64 k, .slice za s.cells.length zc] = rowP [x] := by rw [hx]; simp [rowP, Pe.cells, Pe.val, hsg, hsk]
 have e : rowP (qs.take m) ++ rowP [x] ++ rowP (qs.drop m') = rowP (qs.take m ++ x :: qs.drop m') := by rw [rowP_app, rowP_app]; simp
 have hrow : RowIn R4 b2 (rowP (qs.take m ++ x :: qs.drop m')) := by
  rw [← e, ← hxr]
  exact hrow
 have hcap : (rowP (qs.take m ++ x :: qs.drop m')).length ≤ cap2 * 3 := by
  rw [← e, ← hxr, List.length_append, List.length_append]
  exact hcap
 have hlen : m + 1 + (qs.length - m') = (qs.take m ++ x :: qs.drop m').length := by simp; omega
 rw [hadd, hins, hlen]
 have hle4' := RO.le_trans hle3 hle4
 rw [List.length_map] at hll
 refine SpentV.of (qs := qs.take m ++ x :: qs.drop m') (RowIn.enc (enc := Pe.cells) (k := 3) (fun _ => rfl) (by omega) hrow hcap (by simp; omega)) (by simp [hx]) fun q hq' => ?_
 rcases List.mem_append.1 hq' with h1 | h1
 ·exact (hqv q (List.mem_of_mem_take h1)).mono hle4'
 ·rcases List.mem_cons.1 h1 with rfl | h1
  ·rw [hx]; exact hsv.mono hle4
  ·exact (hqv q (List.mem_of_mem_drop h1)).mono hle4'
end Go.Proofs.YtclkibjonbhldaaGreatDoor
namespace Go.Proofs.YtclkibjonbhldaaGreatDoor
set_option linter.unusedSimpArgs false
set_option linter.unusedVariables false
open Go.Proofs.YtclkibjonbhldaaGreatDoor.Vc
theorem pts_cells {n L : Int} {N : Nat} (hn : 0 < n) : ∀ l : List Sp, l.Pairwise (fun a b => a.t ≤ b.f) → (∀ c ∈ l, c.t = c.f + n ∧ L ≤ c.f ∧ c.t ≤ L + N) → pts (memS l) L N = n * l.length
 | [], _, _ => by
  have : pts (memS []) L N = pts (fun _ => false) L N := rfl
  rw [this, pts_none]; simp
 | s :: l, h, hb => by
  obtain ⟨h1, h2⟩ := List.pairwise_cons.1 h
  obtain ⟨b1, b2, b3⟩ := hb s (by simp)
  have ih := pts_cells hn l h2 fun c hc => hb c (by simp [hc])
  have e : pts (memS (s :: l)) L N = pts (fun t => (decide (s.f ≤ t) && decide (t < s.t)) || memS l t) L N := rfl
  rw [e, pts_or (fun t => ?_), ih, pts_span b2 (by omega)]
  ·rw [if_neg (by omega), if_pos b3, List.length_cons, Int.natCast_add, Int.mul_add, b1]
   simp
   omega
  ·rintro ⟨g1, g2⟩
   simp only [Bool.and_eq_true, decide_eq_true_eq] at g1
   obtain ⟨y, hy, g3⟩ := memS_iff.1 g2
   have := h1 y hy
   omega
theorem cellsW_pair {n : Int} {w : Sp} (hn : 0 < n) : (cellsW n w).Pairwise fun a b => a.t ≤ b.f := by
 unfold cellsW
 rw [List.pairwise_map]
 refine (List.pairwise_lt_range (n := ((w.t - w.f) / n).toNat)).imp fun {i j} hij => ?_
 show w.f + i * n + n ≤ w.f + j * n
 have : ((i : Int) + 1) * n ≤ (j : Int) * n := Int.mul_le_mul_of_nonneg_right (by omega) (by omega)
 rw [Int.add_mul] at this
 omega
theorem count_miss {k : Int} {K : Int → Bool} {w : Sp} (hw : OkW k w) : countL (sizeI k) (missD (sizeI k) K w) = (missC (sizeI k) K w).length := by
 obtain ⟨h1, h2, h3, _⟩ := missD_facts (K := K) hw
 have hp := hw.pos
 have hlo := hw.lo
 have hhi := hw.hi
 refine mul_inj (sizeI_pos k) ?_
 rw [(⟨h1, h2, h3⟩ : Whole k _).count]
 rw [pts_ext (q := memS (missC (sizeI k) K w)) fun t => by unfold missD; rw [normD_mem]]
 refine pts_cells (sizeI_pos k) _ (List.Pairwise.sublist List.filter_sublist (cellsW_pair (sizeI_pos k))) fun c hc => ?_
 obtain ⟨c1, c2, c3, c4, _⟩ := missC_mem hw hc
 exact ⟨c2, by omega, by omega⟩
theorem cost_miss {b : Bu} {p k : Int} {w : Sp} (hw : OkW k w) : costQ b p k w = (missC (sizeI k) (memS (knownD b.spent (grpOf b.groups p) k)) w).length := count_miss hw
theorem unionD_norm (a cs : List Sp) : unionD a (normD cs) = unionD a cs := by
 refine (unionD_normal a (normD cs)).ext (unionD_normal a cs) fun t => ?_
 rw [unionD_mem, unionD_mem, normD_mem]
theorem addS_norm (l : List Se) (g k : Int) (cs : List Sp) : addS l g k (normD cs) = addS l g k cs := by
 unfold addS
 rw [unionD_norm]
theorem OkB.full {b : Bu} (hB : OkB b) : Full b.spent := fun s hs => ⟨(validS_iff.1 (hB.each s hs).nor).1, (hB.each s hs).ne⟩
theorem union_ne {a cs : List Sp} (h : ∃ c ∈ cs, c.f < c.t) : unionD a cs ≠ [] := fun e => by
 obtain ⟨c, hc, h1⟩ := h
 have := unionD_mem a cs c.f
 rw [e, memS_nil, show memS cs c.f = true from memS_iff.2 ⟨c, hc, Int.le_refl _, h1⟩, Bool.or_true] at this
 cases this
def AskRV (R : RO) (r : Value) (b : Bu) (q : Qn) : Prop :=
 (checkI b q.person q.grain q.w ≠ 0 ∧ r = .tuple #[zeroBu, .int .i64 0, .int .i64 (checkI b q.person q.grain q.w)]) ∨
 (checkI b q.person q.grain q.w = 0 ∧ b.limit < totalD (grpOf b.groups q.person) b.spent + costQ b q.person q.grain q.w ∧ r = .tuple #[zeroBu, .int .i64 (costQ b q.person q.grain q.w), .int .i64 13]) ∨
 (checkI b q.person q.grain q.w = 0 ∧ ¬ b.limit < totalD (grpOf b.groups q.person) b.spent + costQ b q.person q.grain q.w ∧ ∃ bv, r = .tuple #[bv, .int .i64 (costQ b q.person q.grain q.w), .int .i64 0] ∧ BuV R bv (askB b q.person q.grain q.w))
set_option maxHeartbeats 2000000 in
theorem rAsk (b : Bu) (hr : RawB b) (q : Qn) (v : Value) (R : RO) (h : BuV R v b) : CallsR Tryz.prog 16 [v, q.val] R fun R' r => AskRV R' r b q := by
 have hC := rCheck b hr q v R h
 have hM := fun hB hp hw hc R' hle => rMissing b hB hr q hp hw hc v R' (BuV.mono (R' := R') h hle)
 have hT := fun hB g R' hle => rTotal b hB hr g v R' (BuV.mono (R' := R') h hle)
 obtain ⟨gv, sv, rfl, hg, hs⟩ := h
 obtain ⟨-, ga, gc, rfl, -, -⟩ := hg.form
 obtain ⟨-, sa, sc, rfl, -, -⟩ := hs.form
 obtain ⟨p, k, w⟩ := q
 simp only [Qn.val] at *
 unfold AskRV
 simp only
 refine callsT mix Tryz.func16 comp16 (by simp [Tryz.ntmps16]) ?_; simp only [go_sem, ↓reduceIte, nQ1, nQ2, nQ3, nQ4, nQ5, nQ6, reduceCtorEq, vc16, rs16]
 refine vcall hC ?_
 rintro R1 r hle1 rfl
 try simp only [go_sem, ↓reduceIte, nQ1, nQ2, nQ3, nQ4, nQ5, nQ6, reduceCtorEq]
 refine ⟨fun h1 => ?_, fun h1 => ?_⟩
 ·exact Or.inl ⟨h1, rfl⟩
 obtain ⟨⟨q1, q2, q3, q4⟩, q5⟩ := checkI_zero.1 h1
 have hB := okB_iff.1 q1
 have hcost := cost_miss (b := b) (p := p) q4
 have hmm := fun c hc => missC_mem (K := memS (knownD b.spent (grpOf b.groups p) k)) (c := c) q4 hc
 have hlm := missC_len (n := sizeI k) (memS (knownD b.spent (grpOf b.groups p) k)) w
 have hqs : missQ b p k w = normD (missC (sizeI k) (memS (knownD b.spent (grpOf b.groups p) k)) w) := rfl
 refine vcall (hM hB q2 q4 q5 R1 hle1) ?_
 intro R2 r hle2 hmv
 obtain ⟨mC, hmC⟩ : ∃ mC, mC = missC (sizeI k) (memS (knownD b.spent (grpOf b.groups p) k)) w := ⟨_, rfl⟩
 rw [← hmC] at hcost hmm hlm hqs hmv
 obtain ⟨ma, mcap, rfl, -, -⟩ := hmv.form
 try simp only [go_sem, ↓reduceIte, nQ1, nQ2, nQ3, nQ4, nQ5, nQ6, reduceCtorEq]
 refine vcall (rGroupOf b.groups p (personB_bd q2) _ R2 (hg.mono (RO.le_trans hle1 hle2))) ?_
 rintro R3 r hle3 rfl
 try simp only [go_sem, ↓reduceIte, nQ1, nQ2, nQ3, nQ4, nQ5, nQ6, reduceCtorEq]
 have hle13 := RO.le_trans hle1 (RO.le_trans hle2 hle3)
 refine vcall (hT hB (grpOf b.groups p) R3 hle13) ?_
 rintro R4 r hle4 rfl
 try simp only [go_sem, ↓reduceIte, nQ1, nQ2, nQ3, nQ4, nQ5, nQ6, reduceCtorEq]
 have htb := totalD_bd (g := grpOf b.groups p) (hB.okC hr)
 have hrl := hr.len
 refine ⟨_, W.in64 (by omega), ?_⟩
 refine ⟨fun h2 => ?_, fun h2 => ?_⟩
 ·rw [← hcost]
  exact Or.inr (Or.inl ⟨h1, by rw [hcost]; exact h2, rfl⟩)
 have hle14 := RO.le_trans hle13 hle4
 refine vcall (rAdd b.spent (grpOf b.groups p) k mC hB.ord hB.full (by omega) (fun s hs => Nat.le_trans (hr.spent s hs).len (by omega)) (by omega) (fun hne => union_ne ?_) _ _ R4 (hs.mono hle14) (hmv.mono (RO.le_trans hle3 hle4))) ?_
 ·cases hm : mC with
  | nil => exact absurd hm hne
  | cons c l =>
   have := hmm c (by rw [hm]; simp)
   have := sizeI_pos k
   exact ⟨c, by simp, by omega⟩
 intro R5 r hle5 hsv
 have hsf := hsv.form
 obtain ⟨-, na, nc, rfl, -, -⟩ := hsf
 try simp only [go_sem, ↓reduceIte, nQ1, nQ2, nQ3, nQ4, nQ5, nQ6, reduceCtorEq]
 refine Or.inr (Or.inr ⟨h1, by rw [hcost]; exact h2, _, by rw [hcost], ?_⟩)
 refine ⟨_, _, rfl, hg.mono (RO.le_trans hle14 hle5), ?_⟩
 show SpentV R5 _ (addS b.spent (grpOf b.groups p) k (missQ b p k w))
 rw [hqs, addS_norm]
 exact hsv
end Go.Proofs.YtclkibjonbhldaaGreatDoor
