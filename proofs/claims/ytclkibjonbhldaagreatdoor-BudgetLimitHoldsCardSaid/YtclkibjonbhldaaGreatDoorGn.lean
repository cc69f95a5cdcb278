/- Plain lemmas of our own, no statement of the seat: the law LimitHolds. -/
import Derived.Test.YtclkibjonbhldaaGreatDoorGh
namespace Go.Proofs.YtclkibjonbhldaaGreatDoor
set_option linter.unusedSimpArgs false
set_option linter.unusedVariables false
open Go.Proofs.YtclkibjonbhldaaGreatDoor.Vc
/-- A budget in a variable. -/
structure Bx where
  b : Bu
  ga : Option Addr
  gc : Nat
  sa : Option Addr
  sc : Nat
abbrev Bx.cells (x : Bx) : List Value := [.int .i64 x.b.limit, .slice x.ga x.b.groups.length x.gc, .slice x.sa x.b.spent.length x.sc]
structure BxV (R : RO) (x : Bx) : Prop where
  val : BuV R (.agg x.cells.toArray) x.b
theorem BxV.mono {R R' : RO} {x : Bx} (h : BxV R x) (hle : RO.le R R') : BxV R' x := ⟨h.val.mono hle⟩
theorem BxV.of {R : RO} {l : Int} {b : Bu} {ga sa : Option Addr} {gc sc : Nat} (h : BuV R (.agg #[.int .i64 l, .slice ga b.groups.length gc, .slice sa b.spent.length sc]) b) : BxV R ⟨b, ga, gc, sa, sc⟩ := by
  have hl := h.groups.1
  subst hl
  exact ⟨h⟩
structure LimI (n : Nat) (b : Bu) : Prop where
  ok : OkB b
  sz : SzB b n (40 * n)
  tot : ∀ g, totalD g b.spent ≤ b.limit
theorem person6 {p : Int} (h0 : 0 ≤ p) (h1 : p < 6) : personB p = true := by unfold personB; simp; omega
theorem LimI.raw {n : Nat} {b : Bu} (h : LimI n b) (hn : n ≤ 20) : RawB b := h.ok.raw (h.sz.mono (by omega) (by omega))
theorem okB_empty {l : Int} (h0 : 0 ≤ l) (h1 : l ≤ 200) : OkB ⟨l, [], []⟩ := ⟨⟨h0, show l ≤ 2251799813685248 by omega⟩, ⟨fun i hi => absurd hi (Nat.not_lt_zero i), Nat.zero_le _⟩, fun s hs => absurd hs (List.not_mem_nil), List.Pairwise.nil⟩
theorem aliasB_limit {b : Bu} {p q : Int} : (aliasB b p q).limit = b.limit := by unfold aliasB; split <;> rfl
theorem aliasB_empty {b : Bu} {p q : Int} (h : b.spent = []) : (aliasB b p q).spent = [] := by
  unfold aliasB
  split
  · exact h
  · rw [h]; rfl
theorem LimI.next {n : Nat} {b : Bu} (h : LimI n b) : LimI (n + 1) b := ⟨h.ok, h.sz.mono (by omega) (by omega), h.tot⟩
theorem LimI.ask {n : Nat} {b : Bu} (h : LimI n b) {p k : Int} {w : Sp} (hp : personB p = true) (hk : 1 ≤ k ∧ k ≤ 4) (hw : OkW k w) (hc : (w.t - w.f) / sizeI k ≤ 40) (hl : ¬ b.limit < totalD (grpOf b.groups p) b.spent + costQ b p k w) : LimI (n + 1) (askB b p k w) := by
  refine ⟨h.ok.ask hp hk hw, (askB_bd h.ok hw h.sz (c := 40) (by omega)).mono (Nat.le_refl _) (by omega), fun g => ?_⟩
  rw [total_ask h.ok hk hw]
  show _ ≤ b.limit
  have := h.tot g
  split
  · rename_i e; rw [e]; omega
  · omega
set_option maxHeartbeats 4000000 in
theorem lLimit (seed : Int) (a0 a1 a2 : Int) (ha : ∀ x ∈ [a0, a1, a2], 0 ≤ x ∧ x < 256) (ds : List Dd) (v : Value) (R : RO) (hz : SzR R) (h : DdV R v ds) :
    CallsR Tryz.prog 4 [.int .i64 seed, .agg #[.int .u8 a0, .int .u8 a1, .int .u8 a2], v] R fun _ r => r = .bool true := by
  have hdl := h.2
  obtain ⟨a, cap, rfl, hc, hf⟩ := h.form
  refine callsT mix Tryz.func4 comp4 (by simp [Tryz.ntmps4]) ?_; simp only [go_sem, ↓reduceIte, Nat.reduceEqDiff, Nat.reduceAdd, Nat.reduceMul, Nat.reduceLeDiff, Nat.reduceLT, Nat.reduceBNe, reduceCtorEq, vc4, rs4]
  refine vcall (lSanity R hz) ?_
  rintro R1 v hle1 rfl
  try simp only [go_sem, ↓reduceIte, Nat.reduceEqDiff, Nat.reduceAdd, Nat.reduceMul, Nat.reduceLeDiff, Nat.reduceLT, Nat.reduceBNe, reduceCtorEq, Int.reduceLE, Int.reduceLT, Int.reduceToNat, Int.cast_ofNat_Int, Int.reduceEq, Int.reduceNe]
  refine vcall (rIndex seed 200 (by omega) R1) ?_
  rintro R2 v hle2 rfl
  try simp only [go_sem, ↓reduceIte, Nat.reduceEqDiff, Nat.reduceAdd, Nat.reduceMul, Nat.reduceLeDiff, Nat.reduceLT, Nat.reduceBNe, reduceCtorEq, Int.reduceLE, Int.reduceLT, Int.reduceToNat, Int.cast_ofNat_Int, Int.reduceEq, Int.reduceNe]
  have hz2 := hz.mono (RO.le_trans hle1 hle2)
  have hle12 := RO.le_trans hle1 hle2
  refine vcLoop (Nat × Bx) (fun x => [(9, .val (.int .i64 x.1)), (8, .loc 1 0), (7, .val (.bool true)), (4, .loc 0 0), (2, .val (.slice a ds.length cap))]) (fun x => [.box [.val (.int .u8 a0), .val (.int .u8 a1), .val (.int .u8 a2)], .box (x.2.cells.map SV.val)]) (fun x R => x.1 ≤ 3 ∧ BxV R x.2 ∧ OkB x.2.b ∧ x.2.b.spent = [] ∧ x.2.b.limit = seed % 200) (fun x => 3 - x.1) (0, ⟨⟨seed % 200, [], []⟩, none, 0, none, 0⟩) ?_ ?_ ?_ ?_
  · (try simp only [go_sem, ↓reduceIte, Nat.reduceEqDiff, Nat.reduceAdd, Nat.reduceMul, Nat.reduceLeDiff, Nat.reduceLT, Nat.reduceBNe, reduceCtorEq]) <;> (repeat' (first | rfl | trivial | constructor | (intro h; exact absurd rfl h)))
  · try simp only [go_sem, ↓reduceIte, Nat.reduceEqDiff, Nat.reduceAdd, Nat.reduceMul, Nat.reduceLeDiff, Nat.reduceLT, Nat.reduceBNe, reduceCtorEq]
  · exact ⟨by omega, ⟨_, _, rfl, GV.nil _, SpentV.nil _⟩, okB_empty (by omega) (by omega), rfl, rfl⟩
  rintro ⟨i, ⟨b, ga, gc, sa, sc⟩⟩ env R3 hle3 hE ⟨hi, ⟨hV⟩, hB, hsp, hlim⟩
  simp only [Bx.cells, List.map_cons, List.map_nil] at hE hV hi hB hsp hlim ⊢
  by_cases hlt : i < 3
  · have h3 : i = 0 ∨ i = 1 ∨ i = 2 := by omega
    rcases h3 with rfl | rfl | rfl
    all_goals
      have hraw : RawB b := hB.raw ⟨by rw [hsp]; decide, by rw [hsp]; decide⟩
      have hz3 := hz2.mono hle3
      (simp only [go_sem] at hE; obtain ⟨e9, e8, e7, e4, e2⟩ := hE; simp only [go_sem, ↓reduceIte, Nat.reduceEqDiff, Nat.reduceAdd, Nat.reduceMul, Nat.reduceLeDiff, Nat.reduceLT, Nat.reduceBNe, reduceCtorEq, e9, e8, e7, e4, e2]; dsimp only at *)
    · refine ⟨fun _ => ⟨by decide, _, W.in64 (by have := ha a0 (by simp); omega), by decide, ?_⟩, fun hn => absurd (by decide) hn⟩
      have hx := ha a0 (by simp)
      have ht : a0.tmod 6 = a0 % 6 := Int.tmod_eq_emod_of_nonneg hx.1
      rw [ht]
      refine vcall (bAlias b hraw ((0 : Nat) : Int) (a0 % 6) _ R3 hz3 hV) ?_
      intro R4 v hle4 hv
      obtain ⟨ga', gc', sa', sc', rfl, hB'⟩ := alias_yes hv hB (by decide) (person6 (by omega) (by omega))
      have hB' := hB'.mono newR_le
      try simp only [go_sem, ↓reduceIte, Nat.reduceEqDiff, Nat.reduceAdd, Nat.reduceMul, Nat.reduceLeDiff, Nat.reduceLT, Nat.reduceBNe, reduceCtorEq, e9, e8, e7, e4, e2]
      refine ⟨_, W.in64 (by omega), (0 + 1, ⟨aliasB b ((0 : Nat) : Int) (a0 % 6), ga', gc', sa', sc'⟩), by omega, ?_, by omega, BxV.of hB', hB.alias (by decide) (person6 (by omega) (by omega)), aliasB_empty hsp, aliasB_limit.trans hlim⟩
      simp only [aliasB_limit]
      exact ⟨rfl, trivial, trivial, trivial⟩
    · refine ⟨fun _ => ⟨by decide, _, W.in64 (by have := ha a1 (by simp); omega), by decide, ?_⟩, fun hn => absurd (by decide) hn⟩
      have hx := ha a1 (by simp)
      have ht : a1.tmod 6 = a1 % 6 := Int.tmod_eq_emod_of_nonneg hx.1
      rw [ht]
      refine vcall (bAlias b hraw ((1 : Nat) : Int) (a1 % 6) _ R3 hz3 hV) ?_
      intro R4 v hle4 hv
      obtain ⟨ga', gc', sa', sc', rfl, hB'⟩ := alias_yes hv hB (by decide) (person6 (by omega) (by omega))
      have hB' := hB'.mono newR_le
      try simp only [go_sem, ↓reduceIte, Nat.reduceEqDiff, Nat.reduceAdd, Nat.reduceMul, Nat.reduceLeDiff, Nat.reduceLT, Nat.reduceBNe, reduceCtorEq, e9, e8, e7, e4, e2]
      refine ⟨_, W.in64 (by omega), (1 + 1, ⟨aliasB b ((1 : Nat) : Int) (a1 % 6), ga', gc', sa', sc'⟩), by omega, ?_, by omega, BxV.of hB', hB.alias (by decide) (person6 (by omega) (by omega)), aliasB_empty hsp, aliasB_limit.trans hlim⟩
      simp only [aliasB_limit]
      exact ⟨rfl, trivial, trivial, trivial⟩
    · refine ⟨fun _ => ⟨by decide, _, W.in64 (by have := ha a2 (by simp); omega), by decide, ?_⟩, fun hn => absurd (by decide) hn⟩
      have hx := ha a2 (by simp)
      have ht : a2.tmod 6 = a2 % 6 := Int.tmod_eq_emod_of_nonneg hx.1
      rw [ht]
      refine vcall (bAlias b hraw ((2 : Nat) : Int) (a2 % 6) _ R3 hz3 hV) ?_
      intro R4 v hle4 hv
      obtain ⟨ga', gc', sa', sc', rfl, hB'⟩ := alias_yes hv hB (by decide) (person6 (by omega) (by omega))
      have hB' := hB'.mono newR_le
      try simp only [go_sem, ↓reduceIte, Nat.reduceEqDiff, Nat.reduceAdd, Nat.reduceMul, Nat.reduceLeDiff, Nat.reduceLT, Nat.reduceBNe, reduceCtorEq, e9, e8, e7, e4, e2]
      refine ⟨_, W.in64 (by omega), (2 + 1, ⟨aliasB b ((2 : Nat) : Int) (a2 % 6), ga', gc', sa', sc'⟩), by omega, ?_, by omega, BxV.of hB', hB.alias (by decide) (person6 (by omega) (by omega)), aliasB_empty hsp, aliasB_limit.trans hlim⟩
      simp only [aliasB_limit]
      exact ⟨rfl, trivial, trivial, trivial⟩
  · obtain rfl : i = 3 := by omega
    (simp only [go_sem] at hE; obtain ⟨e9, e8, e7, e4, e2⟩ := hE; simp only [go_sem, ↓reduceIte, Nat.reduceEqDiff, Nat.reduceAdd, Nat.reduceMul, Nat.reduceLeDiff, Nat.reduceLT, Nat.reduceBNe, reduceCtorEq, e9, e8, e7, e4, e2]; dsimp only at *)
    refine ⟨fun h => absurd h (by decide), fun _ => ?_⟩
    refine vcLoop (Nat × Bx) (fun x => [(12, .val (.int .i64 x.1)), (8, .loc 1 0), (7, .val (.bool true)), (2, .val (.slice a ds.length cap))]) (fun x => [.box [.val (.int .u8 a0), .val (.int .u8 a1), .val (.int .u8 a2)], .box (x.2.cells.map SV.val)]) (fun x R => x.1 ≤ 10 ∧ x.1 ≤ ds.length ∧ BxV R x.2 ∧ LimI x.1 x.2.b) (fun x => 10 - x.1) (0, ⟨b, ga, gc, sa, sc⟩) ?_ ?_ ?_ ?_
    · (try simp only [go_sem, ↓reduceIte, Nat.reduceEqDiff, Nat.reduceAdd, Nat.reduceMul, Nat.reduceLeDiff, Nat.reduceLT, Nat.reduceBNe, reduceCtorEq]) <;> (repeat' (first | rfl | trivial | constructor | (intro h; exact absurd rfl h)))
    · try simp only [go_sem, ↓reduceIte, Nat.reduceEqDiff, Nat.reduceAdd, Nat.reduceMul, Nat.reduceLeDiff, Nat.reduceLT, Nat.reduceBNe, reduceCtorEq]
    · exact ⟨by omega, by omega, BxV.of hV, hB, ⟨by rw [hsp]; exact Nat.le_refl _, by rw [hsp]; exact Nat.le_refl _⟩, fun g => by rw [hsp]; exact hB.lim.1⟩
    rintro ⟨i, ⟨b, ga, gc, sa, sc⟩⟩ env R4 hle4 hE ⟨hi, hil, ⟨hV⟩, hI⟩
    simp only [Bx.cells, List.map_cons, List.map_nil] at hE hV hi hil hI ⊢
    have hle14 := RO.le_trans hle12 (RO.le_trans hle3 hle4)
    (simp only [go_sem] at hE; obtain ⟨f12, f8, f7, f2⟩ := hE; simp only [go_sem, ↓reduceIte, Nat.reduceEqDiff, Nat.reduceAdd, Nat.reduceMul, Nat.reduceLeDiff, Nat.reduceLT, Nat.reduceBNe, reduceCtorEq, f12, f8, f7, f2]; dsimp only at *)
    have hB := hI.ok
    have hraw := hI.raw (by omega)
    have hz4 := hz.mono hle14
    intro h1 h2
    refine ⟨h1, ?_⟩
    · have hlt' : i < ds.length := by omega
      obtain ⟨ad, had, hR⟩ := hf i hlt'
      obtain ⟨⟨q1, q2⟩, q3, q4, q5, -, -⟩ := madeQ_ok ds[i]
      have hpq := person6 q1 q2
      refine vat ad had ?_
      try simp only [go_sem, ↓reduceIte, Nat.reduceEqDiff, Nat.reduceAdd, Nat.reduceMul, Nat.reduceLeDiff, Nat.reduceLT, Nat.reduceBNe, reduceCtorEq]
      refine vloadn (ds[i]).cells rfl (fun j u hj => hle14 _ _ (hR j u hj)) ?_
      try simp only [go_sem, ↓reduceIte, Nat.reduceEqDiff, Nat.reduceAdd, Nat.reduceMul, Nat.reduceLeDiff, Nat.reduceLT, Nat.reduceBNe, reduceCtorEq, f12, f8, f7, f2]
      refine vcall (rMadeQ ds[i] R4) ?_
      rintro R5 r hle5 rfl
      try simp only [go_sem, ↓reduceIte, Nat.reduceEqDiff, Nat.reduceAdd, Nat.reduceMul, Nat.reduceLeDiff, Nat.reduceLT, Nat.reduceBNe, reduceCtorEq, f12, f8, f7, f2]
      refine vcall (rAsked b hraw (madeQ ds[i]) _ R5 (hz4.mono hle5) (hV.mono hle5)) ?_
      intro R6 r hle6 hv
      have hv := hv.mono newR_le
      rcases hv with ⟨h, _⟩ | ⟨_, h, rfl⟩ | ⟨_, hl, bv, rfl, gv', sv', rfl, hg', hs'⟩
      · exact absurd (check_of hB hpq q3 q4 (by omega)) h
      · simp only [zeroBu]
        try simp only [go_sem, ↓reduceIte, Nat.reduceEqDiff, Nat.reduceAdd, Nat.reduceMul, Nat.reduceLeDiff, Nat.reduceLT, Nat.reduceBNe, reduceCtorEq, f12, f8, f7, f2]
        refine ⟨fun e => absurd e (by decide), fun _ => ?_⟩
        have hI2 : LimI (i + 1) (b) := hI.next
        have hV2 := hV.mono (RO.le_trans hle5 hle6)
        have hB2 := hI2.ok
        have hraw2 := hI2.raw (by omega)
        refine vcLoop Nat (fun k => [(15, .val (.int .i64 k)), (12, .val (.int .i64 i)), (8, .loc 1 0), (7, .val (.bool true)), (2, .val (.slice a ds.length cap))]) (fun k => [.box [.val (.int .u8 a0), .val (.int .u8 a1), .val (.int .u8 a2)], .box [.val (.int .i64 b.limit), .val (.slice ga (b).groups.length gc), .val (.slice sa (b).spent.length sc)]]) (fun k _ => k ≤ 6) (fun k => 6 - k) 0 ?_ ?_ ?_ ?_
        · (try simp only [go_sem, ↓reduceIte, Nat.reduceEqDiff, Nat.reduceAdd, Nat.reduceMul, Nat.reduceLeDiff, Nat.reduceLT, Nat.reduceBNe, reduceCtorEq]) <;> (repeat' (first | rfl | trivial | constructor | (intro h; exact absurd rfl h)))
        · try simp only [go_sem, ↓reduceIte, Nat.reduceEqDiff, Nat.reduceAdd, Nat.reduceMul, Nat.reduceLeDiff, Nat.reduceLT, Nat.reduceBNe, reduceCtorEq]
        · exact Nat.zero_le _
        rintro k env R7 hle7 hE hk6
        (simp only [go_sem] at hE; obtain ⟨g15, g12, g8, g7, g2⟩ := hE; simp only [go_sem, ↓reduceIte, Nat.reduceEqDiff, Nat.reduceAdd, Nat.reduceMul, Nat.reduceLeDiff, Nat.reduceLT, Nat.reduceBNe, reduceCtorEq, g15, g12, g8, g7, g2]; dsimp only at *)
        have hle17 := RO.le_trans hle14 (RO.le_trans hle5 (RO.le_trans hle6 hle7))
        have hV7 := hV2.mono hle7
        refine ⟨fun hk => ?_, fun hk => ?_⟩
        · refine vcall (bGroup (b) hraw2 k _ R7 (hz.mono hle17) hV7) ?_
          rintro R8 r hle8 rfl
          try simp only [go_sem, ↓reduceIte, Nat.reduceEqDiff, Nat.reduceAdd, Nat.reduceMul, Nat.reduceLeDiff, Nat.reduceLT, Nat.reduceBNe, reduceCtorEq, g15, g12, g8, g7, g2]
          refine vcall (rTotal (b) hB2 hraw2 _ _ R8 (hV7.mono hle8)) ?_
          rintro R9 r hle9 rfl
          try simp only [go_sem, ↓reduceIte, Nat.reduceEqDiff, Nat.reduceAdd, Nat.reduceMul, Nat.reduceLeDiff, Nat.reduceLT, Nat.reduceBNe, reduceCtorEq, g15, g12, g8, g7, g2]
          have htt := hI2.tot (grpB (b) k (okB (b)))
          refine ⟨fun hgt => ?_, fun _ => ⟨_, W.in64 (by omega), k + 1, by omega, ?_, by omega⟩⟩
          · exfalso
            have hlm : (b).limit = b.limit := rfl
            omega
          · exact rfl
        · refine ⟨_, W.in64 (by omega), (i + 1, ⟨b, ga, gc, sa, sc⟩), by omega, ?_, by omega, by omega, BxV.of hV7, hI2⟩
          exact ⟨rfl, rfl, rfl, rfl⟩
      · have hg' : GV R6 gv' b.groups := hg'
        obtain ⟨-, ga', gc', rfl, -, -⟩ := hg'.form
        obtain ⟨-, sa', sc', rfl, -, -⟩ := hs'.form
        have hql : (askB b (madeQ ds[i]).person (madeQ ds[i]).grain (madeQ ds[i]).w).limit = b.limit := rfl
        simp only [hql]
        try simp only [go_sem, ↓reduceIte, Nat.reduceEqDiff, Nat.reduceAdd, Nat.reduceMul, Nat.reduceLeDiff, Nat.reduceLT, Nat.reduceBNe, reduceCtorEq, f12, f8, f7, f2]
        have hI2 : LimI (i + 1) (askB b (madeQ ds[i]).person (madeQ ds[i]).grain (madeQ ds[i]).w) := hI.ask hpq q3 q4 (by omega) hl
        have hV2 : BuV R6 (.agg #[.int .i64 b.limit, .slice ga' b.groups.length gc', .slice sa' (askB b (madeQ ds[i]).person (madeQ ds[i]).grain (madeQ ds[i]).w).spent.length sc']) (askB b (madeQ ds[i]).person (madeQ ds[i]).grain (madeQ ds[i]).w) := ⟨_, _, rfl, hg', hs'⟩
        have hB2 := hI2.ok
        have hraw2 := hI2.raw (by omega)
        refine vcLoop Nat (fun k => [(15, .val (.int .i64 k)), (12, .val (.int .i64 i)), (8, .loc 1 0), (7, .val (.bool true)), (2, .val (.slice a ds.length cap))]) (fun k => [.box [.val (.int .u8 a0), .val (.int .u8 a1), .val (.int .u8 a2)], .box [.val (.int .i64 b.limit), .val (.slice ga' (askB b (madeQ ds[i]).person (madeQ ds[i]).grain (madeQ ds[i]).w).groups.length gc'), .val (.slice sa' (askB b (madeQ ds[i]).person (madeQ ds[i]).grain (madeQ ds[i]).w).spent.length sc')]]) (fun k _ => k ≤ 6) (fun k => 6 - k) 0 ?_ ?_ ?_ ?_
        · (try simp only [go_sem, ↓reduceIte, Nat.reduceEqDiff, Nat.reduceAdd, Nat.reduceMul, Nat.reduceLeDiff, Nat.reduceLT, Nat.reduceBNe, reduceCtorEq]) <;> (repeat' (first | rfl | trivial | constructor | (intro h; exact absurd rfl h)))
        · try simp only [go_sem, ↓reduceIte, Nat.reduceEqDiff, Nat.reduceAdd, Nat.reduceMul, Nat.reduceLeDiff, Nat.reduceLT, Nat.reduceBNe, reduceCtorEq]
        · exact Nat.zero_le _
        rintro k env R7 hle7 hE hk6
        (simp only [go_sem] at hE; obtain ⟨g15, g12, g8, g7, g2⟩ := hE; simp only [go_sem, ↓reduceIte, Nat.reduceEqDiff, Nat.reduceAdd, Nat.reduceMul, Nat.reduceLeDiff, Nat.reduceLT, Nat.reduceBNe, reduceCtorEq, g15, g12, g8, g7, g2]; dsimp only at *)
        have hle17 := RO.le_trans hle14 (RO.le_trans hle5 (RO.le_trans hle6 hle7))
        have hV7 := hV2.mono hle7
        refine ⟨fun hk => ?_, fun hk => ?_⟩
        · refine vcall (bGroup (askB b (madeQ ds[i]).person (madeQ ds[i]).grain (madeQ ds[i]).w) hraw2 k _ R7 (hz.mono hle17) hV7) ?_
          rintro R8 r hle8 rfl
          try simp only [go_sem, ↓reduceIte, Nat.reduceEqDiff, Nat.reduceAdd, Nat.reduceMul, Nat.reduceLeDiff, Nat.reduceLT, Nat.reduceBNe, reduceCtorEq, g15, g12, g8, g7, g2]
          refine vcall (rTotal (askB b (madeQ ds[i]).person (madeQ ds[i]).grain (madeQ ds[i]).w) hB2 hraw2 _ _ R8 (hV7.mono hle8)) ?_
          rintro R9 r hle9 rfl
          try simp only [go_sem, ↓reduceIte, Nat.reduceEqDiff, Nat.reduceAdd, Nat.reduceMul, Nat.reduceLeDiff, Nat.reduceLT, Nat.reduceBNe, reduceCtorEq, g15, g12, g8, g7, g2]
          have htt := hI2.tot (grpB (askB b (madeQ ds[i]).person (madeQ ds[i]).grain (madeQ ds[i]).w) k (okB (askB b (madeQ ds[i]).person (madeQ ds[i]).grain (madeQ ds[i]).w)))
          refine ⟨fun hgt => ?_, fun _ => ⟨_, W.in64 (by omega), k + 1, by omega, ?_, by omega⟩⟩
          · exfalso
            have hlm : (askB b (madeQ ds[i]).person (madeQ ds[i]).grain (madeQ ds[i]).w).limit = b.limit := rfl
            omega
          · exact rfl
        · refine ⟨_, W.in64 (by omega), (i + 1, ⟨askB b (madeQ ds[i]).person (madeQ ds[i]).grain (madeQ ds[i]).w, ga', gc', sa', sc'⟩), by omega, ?_, by omega, by omega, BxV.of hV7, hI2⟩
          exact ⟨rfl, rfl, rfl, rfl⟩
end Go.Proofs.YtclkibjonbhldaaGreatDoor
