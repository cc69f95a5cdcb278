/- Plain lemmas of our own, no statement of the seat: budget.Alias. -/
import Derived.Test.YtclkibjonbhldaaGreatDoorGf
namespace Go.Proofs.YtclkibjonbhldaaGreatDoor
set_option linter.unusedSimpArgs false
set_option linter.unusedVariables false
open Go.Proofs.YtclkibjonbhldaaGreatDoor.Vc
/-- Own memory is lent, whether there is some or not. -/
theorem vlendG {P : PG} {b : Bool} {xs : List SV} {m : Bool} {f : FuncId} {args : List Operand} {s : St} {k : SV → St → Prop} {t : Tok k}
    (h : ∀ β κ R', LendR s β κ R' → ∃ Post, CallsR P.P f (xs.map (den β κ)) R' Post ∧ ∀ R'' v R3, RO.le R' R'' → Post R'' v → RO.le s.R R3 → (∀ a u, R'' a u → Fresh R' a.block → R3 a u) → k (.val v) ⟨s.env, s.blk, R3⟩) : CallT P b xs m f args s k t := by
  unfold CallT
  split
  · exact .inr (.inr (.inl h))
  · exact .inr (.inl h)
theorem gsV {s : St} {β κ : Nat → Nat} {R' : RO} {j T : Nat} {hs : List Value} (hL : LendR s β κ R') (hj : s.blk[j]? = some (gb T 1 hs)) (hl : hs.length ≤ 1000000000) : ∃ a cap, den β κ (gs j hs.length) = .slice a hs.length cap ∧ EncV (fun x : Value => [x]) 1 R' (.slice a hs.length cap) hs := by
  by_cases h : hs.length = 0
  · rw [h]
    have h0 : hs = [] := List.eq_nil_of_length_eq_zero h
    subst h0
    exact ⟨none, 0, rfl, EncV.nil _ _ _⟩
  · rw [gs_pos h]
    rw [gb_ne (show hs ≠ [] from fun e => h (by rw [e]; rfl))] at hj
    obtain ⟨h1, h2⟩ := hL.2 j _ hj
    exact ⟨_, _, rfl, rowV h1 h2 hl⟩
/-- What Alias answers. -/
def AliasV (R : RO) (r : Value) (b : Bu) (p q : Int) (ok : Bool) : Prop :=
  if ok = true ∧ personB p = true ∧ personB q = true then ∃ bv, r = .tuple #[bv, .int .i64 0] ∧ BuV R bv (aliasB b p q) else r = .tuple #[zeroBu, .int .i64 1]
/-- The first cells of a row. -/
theorem rowX {R : RO} {b cap : Nat} {hs ex : List Value} (h : RowIn R b (hs ++ ex)) (hc : (hs ++ ex).length ≤ cap * 1) (hl : hs.length ≤ 1000000000) : EncV (fun x : Value => [x]) 1 R (.slice (some ⟨b, 0, none⟩) hs.length cap) hs :=
  rowV (fun i v hi => h i v (by rw [List.getElem?_append_left (List.getElem?_eq_some_iff.1 hi).1]; exact hi)) (by rw [List.length_append] at hc; omega) hl
theorem HsV.push {R : RO} {hs : List Value} {gs : List (List Int)} (h : HsV R hs gs) {v : Value} {x : List Int} (hv : IntV R v x) : HsV R (hs ++ [v]) (gs ++ [x]) := by
  have hl := h.len
  refine ⟨by simp [hl], fun i h1 h2 => ?_⟩
  by_cases hi : i < hs.length
  · rw [List.getElem_append_left hi, List.getElem_append_left (by omega)]
    exact h.val i hi (by omega)
  · rw [List.length_append, List.length_singleton] at h1
    obtain rfl : i = hs.length := by omega
    rw [List.getElem_append_right (by omega), List.getElem_append_right (by omega)]
    simpa using hv
theorem HsV.set {R : RO} {hs : List Value} {gs : List (List Int)} (h : HsV R hs gs) (j : Nat) {v : Value} {x : List Int} (hv : IntV R v x) : HsV R (hs.set j v) (gs.set j x) := by
  refine ⟨by simp [h.len], fun i h1 h2 => ?_⟩
  rw [List.length_set] at h1 h2
  rw [List.getElem_set, List.getElem_set]
  split
  · exact hv
  · exact h.val i h1 h2
theorem HsV.erase {R : RO} {hs : List Value} {gs : List (List Int)} (h : HsV R hs gs) (j : Nat) : HsV R (hs.eraseIdx j) (gs.eraseIdx j) := by
  have hl := h.len
  refine ⟨by rw [List.length_eraseIdx, List.length_eraseIdx, hl], fun i h1 h2 => ?_⟩
  rw [List.length_eraseIdx] at h1 h2
  rw [List.getElem_eraseIdx, List.getElem_eraseIdx]
  split
  · exact h.val i (by split at h1 <;> omega) (by split at h2 <;> omega)
  · exact h.val (i + 1) (by split at h1 <;> omega) (by split at h2 <;> omega)
theorem seqA {P : PG} {a b c : VCode} {s : St} {kn : St → Prop} {ke : Nat → St → Prop} {kr : St → Prop} {tn : Tok kn} {te : Tok ke} {tr : Tok kr} (h : CodeT P (.seq (.seq a b) c) s kn ke kr .mk .mk .mk) : CodeT P (.seq a (.seq b c)) s kn ke kr tn te tr := h
theorem inc_len {l : List Int} (h : Inc l) (hp : ∀ p ∈ l, personB p = true) : l.length ≤ 512 := by
  have hn : (l.map Int.toNat).Nodup := by
    refine List.pairwise_map.2 ?_
    have h1 : l.Pairwise fun a b => a ∈ l ∧ b ∈ l ∧ a < b := List.pairwise_iff_getElem.2 fun i j hi hj hij => ⟨List.getElem_mem hi, List.getElem_mem hj, h.get_lt hij hj⟩
    refine h1.imp fun {a b} hab e => ?_
    have h2 := hp a hab.1
    have h3 := hp b hab.2.1
    unfold personB at h2 h3
    simp only [Bool.and_eq_true, decide_eq_true_eq] at h2 h3
    omega
  have := nodup_len hn (b := List.range 512) fun x hx => by
    obtain ⟨p, hp', rfl⟩ := List.mem_map.1 hx
    have h2 := hp p hp'
    unfold personB at h2
    simp only [Bool.and_eq_true, decide_eq_true_eq] at h2
    exact List.mem_range.2 (by omega)
  simpa using this
theorem membersD_len {gs : List (List Int)} (h : ValidG gs) {g : Int} (hg : g < gs.length) : 1 ≤ (membersD gs g).length ∧ (membersD gs g).length ≤ 512 := by
  unfold membersD
  split
  · simp
  · rename_i hn
    have hlt : g.toNat < gs.length := by omega
    rw [List.getD_eq_getElem?_getD, List.getElem?_eq_getElem hlt]
    have hO := h.all g.toNat hlt
    refine ⟨?_, inc_len hO.inc fun p hp => (hO.mem p hp).1⟩
    show 1 ≤ gs[g.toNat].length
    have := hO.ne
    rcases Nat.eq_zero_or_pos gs[g.toNat].length with h0 | h0
    · exact absurd (List.eq_nil_of_length_eq_zero h0) this
    · exact h0
def gs2D (gs : List (List Int)) (keep gone : Int) : List (List Int) := if keep < 0 then gs ++ [sortI (membersD gs keep ++ membersD gs gone)] else gs.set keep.toNat (sortI (membersD gs keep ++ membersD gs gone))
def AlQ3 (b : Bu) (gv sv : Value) (ps : List Le) (c : Nat) (R R17 : RO) (keep gone : Int) (s : St) : Prop :=
  ∃ env bk jg hs2 R18, s = ⟨env, bk, R18⟩ ∧ RO.le R17 R18 ∧ bk[0]? = some (.box [.val (.int .i64 b.limit), .val gv, .val sv]) ∧ bk[1]? = some (.box [.val (.int .i64 0), .val (.slice none 0 0), .val (.slice none 0 0)]) ∧ bk[4]? = some (.mp (ents ps) c) ∧
    bk[jg]? = some (.row 64 1 hs2) ∧ (jg = 2 ∨ jg = 8) ∧ env 3 = .loc 0 0 ∧ env 6 = .loc 1 0 ∧ env 8 = .sl jg hs2.length ∧ env 9 = .mp 4 ∧ env 10 = .val (.int .i64 keep) ∧ env 11 = .val (.int .i64 gone) ∧ env 13 = .val (.int .i64 (intoG b.groups keep)) ∧
    HsV (newR R R18) hs2 (gs2D b.groups keep gone)
def AlQ (b : Bu) (gv sv : Value) (hs0 : List Value) (ps : List Le) (c : Nat) (R : RO) (x y : Int) (s : St) : Prop :=
  ∃ env z, s = ⟨env, [.box [.val (.int .i64 b.limit), .val gv, .val sv], .box [.val (.int .i64 0), .val (.slice none 0 0), .val (.slice none 0 0)], gb 64 1 hs0, z, .mp (ents ps) c], R⟩ ∧
    env 3 = .loc 0 0 ∧ env 6 = .loc 1 0 ∧ env 8 = gs 2 hs0.length ∧ env 9 = .mp 4 ∧ env 10 = .val (.int .i64 x) ∧ env 11 = .val (.int .i64 y)
set_option maxHeartbeats 4000000 in
theorem bAlias (b : Bu) (hr : RawB b) (p q : Int) (v : Value) (R : RO) (hz : SzR R) (h : BuV R v b) : CallsR Tryz.prog 18 [v, .int .i64 p, .int .i64 q] R fun R' r => AliasV (newR R R') r b p q (okB b) := by
  have hV := fun R' hle => bValid b hr v R' (SzR.mono (R' := R') hz hle) (BuV.mono (R' := R') h hle)
  have hO := fun hk R' hle => bOpen b hk v R' (BuV.mono (R' := R') h hle)
  obtain ⟨gv, sv, rfl, hg, hs⟩ := h
  obtain ⟨hgl, -⟩ := hg.form
  refine callsT mix Tryz.func18 comp18 (by simp [Tryz.ntmps18]) ?_; simp only [go_sem, ↓reduceIte, Nat.reduceEqDiff, Nat.reduceAdd, Nat.reduceMul, Nat.reduceLeDiff, Nat.reduceLT, Nat.reduceBNe, reduceCtorEq, vc18, rs18]
  refine vcall (hV R (RO.le_refl _)) ?_
  rintro R1 r hle1 rfl
  try simp only [go_sem, ↓reduceIte, Nat.reduceEqDiff, Nat.reduceAdd, Nat.reduceMul, Nat.reduceLeDiff, Nat.reduceLT, Nat.reduceBNe, reduceCtorEq]
  have hno : ∀ R' : RO, ¬ (okB b = true ∧ personB p = true ∧ personB q = true) → AliasV (newR R R') (.tuple #[zeroBu, .int .i64 1]) b p q (okB b) := fun R' hn => by unfold AliasV; rw [if_neg hn]
  refine ⟨fun h1 => ?_, fun h1 => hno _ fun hh => by rw [hh.1] at h1; cases h1⟩
  refine vcall (bPerson p R1) ?_
  rintro R2 r hle2 rfl
  try simp only [go_sem, ↓reduceIte, Nat.reduceEqDiff, Nat.reduceAdd, Nat.reduceMul, Nat.reduceLeDiff, Nat.reduceLT, Nat.reduceBNe, reduceCtorEq]
  refine ⟨fun h2 => ?_, fun h2 => hno _ fun hh => by rw [hh.2.1] at h2; cases h2⟩
  refine vcall (bPerson q R2) ?_
  rintro R3 r hle3 rfl
  try simp only [go_sem, ↓reduceIte, Nat.reduceEqDiff, Nat.reduceAdd, Nat.reduceMul, Nat.reduceLeDiff, Nat.reduceLT, Nat.reduceBNe, reduceCtorEq]
  refine ⟨fun h3 => hno _ fun hh => (by rw [hh.2.2] at h3; cases h3), fun h3 => ?_⟩
  have hB := okB_iff.1 h1
  have hle13 := RO.le_trans hle1 (RO.le_trans hle2 hle3)
  refine vhandE (bCloned b.groups gv R3 (hg.mono hle13)) rfl ?_
  rintro R4 bs r hle4 ⟨hs0, rfl, rfl, hH⟩
  simp only [go_sem, ↓reduceIte, Nat.reduceEqDiff, Nat.reduceAdd, Nat.reduceMul, Nat.reduceLeDiff, Nat.reduceLT, Nat.reduceBNe, reduceCtorEq, renB_gb, ren_gs]
  have hle14 := RO.le_trans hle13 hle4
  refine vhandE (hO hB.keys R4 hle14) rfl ?_
  rintro R5 bs r hle5 ⟨rfl, ps, c, cs, rfl, rfl, hL, hps⟩
  simp only [go_sem, ↓reduceIte, Nat.reduceEqDiff, Nat.reduceAdd, Nat.reduceMul, Nat.reduceLeDiff, Nat.reduceLT, Nat.reduceBNe, reduceCtorEq, renB_gb, ren_gs]
  have e0 : (List.range' 2 1).getD 0 0 = 2 := rfl
  have e1 : (List.range' 3 2).getD 1 1 = 4 := rfl
  rw [e0]
  have hle15 := hle14
  have hHl := hH.len
  have hN : ∀ R' : RO, RO.le R5 R' → HsV R' hs0 b.groups := fun R' hle => hH.mono (RO.le_trans newR_le hle)
  have hcall : ∀ (x : Int) (hx : personB x = true) (R' : RO) (a : Option Addr) (cap : Nat), RO.le R5 R' → EncV (fun x : Value => [x]) 1 R' (.slice a hs0.length cap) hs0 → CallsR Tryz.prog 43 [.slice a hs0.length cap, .int .i64 x] R' fun _ r => r = .int .i64 (grpOf b.groups x) := fun x hx R' a cap hle hv => bGroupOf b.groups x (personB_bd hx) _ R' ((hN R' hle).gv hv)
  refine vlendG ?_
  intro β κ R6 hL6
  obtain ⟨a6, cap6, e6, hv6⟩ := gsV (j := 2) (hs := hs0) hL6 rfl (by omega)
  refine ⟨_, (by rw [List.map_cons, List.map_cons, List.map_nil, e6]; exact hcall p h2 R6 a6 cap6 hL6.1 hv6), ?_⟩
  rintro R7 r R8 hle7 rfl hle8 -
  try simp only [go_sem, ↓reduceIte, Nat.reduceEqDiff, Nat.reduceAdd, Nat.reduceMul, Nat.reduceLeDiff, Nat.reduceLT, Nat.reduceBNe, reduceCtorEq, e0, e1]
  refine vlendG ?_
  intro β' κ' R9 hL9
  obtain ⟨a9, cap9, e9, hv9⟩ := gsV (j := 2) (hs := hs0) hL9 rfl (by omega)
  have hle58 : RO.le R5 R8 := hle8
  refine ⟨_, (by rw [List.map_cons, List.map_cons, List.map_nil, e9]; exact hcall q h3 R9 a9 cap9 (RO.le_trans hle58 hL9.1) hv9), ?_⟩
  rintro R10 r R11 hle10 rfl hle11 -
  have hle5b := RO.le_trans hle58 hle11
  have fin : ∀ (R9 : RO) (gv' sv' : Value) (B : Bu), aliasB b p q = B → GV (newR R R9) gv' B.groups → SpentV (newR R R9) sv' B.spent → AliasV (newR R R9) (.tuple #[.agg #[.int .i64 B.limit, gv', sv'], .int .i64 0]) b p q (okB b) := fun R9 gv' sv' B hBe hg' hs' => by
    unfold AliasV
    rw [if_pos ⟨h1, h2, h3⟩, hBe]
    exact ⟨_, rfl, _, _, rfl, hg', hs'⟩
  have hpl : ps.length ≤ 1000 := by
    have := congrArg List.length hps
    rw [List.length_map] at this
    have := hr.len
    omega
  (refine cutS (fun s' => s' = ?_) ?_ ?_; rotate_left; (try simp only [go_sem, ↓reduceIte, Nat.reduceEqDiff, Nat.reduceAdd, Nat.reduceMul, Nat.reduceLeDiff, Nat.reduceLT, Nat.reduceBNe, reduceCtorEq, e0, e1]; rfl); rintro _ rfl)
  rw [tCode_seq]
  refine cutT (fun s' => grpOf b.groups p ≠ grpOf b.groups q ∧ AlQ b gv sv hs0 ps c R11 (grpOf b.groups p) (grpOf b.groups q) s') ?_ ?_
  · try simp only [go_sem, ↓reduceIte, Nat.reduceEqDiff, Nat.reduceAdd, Nat.reduceMul, Nat.reduceLeDiff, Nat.reduceLT, Nat.reduceBNe, reduceCtorEq, e0, e1]
    refine ⟨fun heq => ?_, fun hne => ⟨hne, _, _, rfl, rfl, rfl, rfl, rfl, rfl, rfl⟩⟩
    have hBe : aliasB b p q = b := by unfold aliasB; rw [if_pos heq]
    refine vshow [4] [.mp 0] [.mp (ents ps) c] (bClose ps c R11 (hL.mono hle5b) (by omega)) rfl rfl rfl ?_ (by simp) rfl rfl (fun R' bs' r h => by obtain ⟨b1, qs, rfl, _⟩ := h; rfl) ?_
    { try simp only [go_sem, ↓reduceIte, Nat.reduceEqDiff, Nat.reduceAdd, Nat.reduceMul, Nat.reduceLeDiff, Nat.reduceLT, Nat.reduceBNe, reduceCtorEq]
      rfl }
    rintro R12 bs r hle12 ⟨b1, qs, rfl, rfl, hq1, hq2, hq3⟩ _
    simp only [go_sem, ↓reduceIte, Nat.reduceEqDiff, Nat.reduceAdd, Nat.reduceMul, Nat.reduceLeDiff, Nat.reduceLT, Nat.reduceBNe, reduceCtorEq, renB_gb, setG, rn, ren_gs]
    have hsp : qs.map (·.1) = b.spent := sorted_ext hq2 hB.ord fun s => by rw [hq1.mem_iff, hps]
    have hr3 : (List.range' 5 (3 - 1)).getD 1 2 = 6 := rfl
    have hql : qs.length ≤ 1000000 := by
      have h3 := hq1.length_eq
      rw [List.length_map, List.length_map] at h3
      omega
    have hqne : qs.length ≠ 0 → rowP qs ≠ [] := fun h e => by
      have := rowP_len qs
      rw [e] at this
      simp at this
      omega
    have hgnil : hs0.length = 0 → b.groups = [] := fun h => List.eq_nil_of_length_eq_zero (by omega)
    have hsnil : qs.length = 0 → b.spent = [] := fun h => by rw [← hsp, List.eq_nil_of_length_eq_zero h]; rfl
    have hle012 : RO.le R R12 := RO.le_trans hle14 (RO.le_trans hle5b hle12)
    have hle011 : RO.le R R11 := RO.le_trans hle14 hle5b
    have hGs : ∀ (R13 : RO) b2 cap2, RO.le R12 R13 → RowIn R13 b2 hs0 → hs0.length ≤ cap2 → Fresh R12 b2 → ∀ R14, RO.le R13 R14 → GV (newR R R14) (.slice (some ⟨b2, 0, none⟩) hs0.length cap2) b.groups := fun R13 b2 cap2 hle13' hrow hcap hfr R14 hle14' =>
      (hH.mono (fun a u hn => ⟨hle14' _ _ (hle13' _ _ (hle12 _ _ (hle5b _ _ hn.1))), (newR_sub hle13 _ _ hn).2⟩)).gv (rowV (fun i v hi => newR_mono hle14' _ _ ((hrow.new hfr hle012) i v hi)) (by omega) (by omega))
    have hSs : ∀ (R13 : RO) b2 cap2, RO.le R12 R13 → RowIn R13 b2 (rowP qs) → (rowP qs).length ≤ cap2 * 3 → Fresh R12 b2 → SpentV (newR R R13) (.slice (some ⟨b2, 0, none⟩) qs.length cap2) b.spent := fun R13 b2 cap2 hle13' hrow hcap hfr =>
      SpentV.of (RowIn.enc (enc := Pe.cells) (k := 3) (fun _ => rfl) (by omega) (hrow.new hfr hle012) hcap (by omega)) hsp fun q hq => (hq3 q hq).mono fun a u hn => ⟨hle13' _ _ hn.1, (newR_sub hle011 _ _ hn).2⟩
    refine leaf_gs (fun h0 => ?_) (fun h0 => ?_)
    · have hg0 := hgnil h0
      try simp only [go_sem, ↓reduceIte, Nat.reduceEqDiff, Nat.reduceAdd, Nat.reduceMul, Nat.reduceLeDiff, Nat.reduceLT, Nat.reduceBNe, reduceCtorEq]
      refine leaf_gs (fun h3 => ?_) (fun h3 => ?_)
      · try simp only [go_sem, ↓reduceIte, Nat.reduceEqDiff, Nat.reduceAdd, Nat.reduceMul, Nat.reduceLeDiff, Nat.reduceLT, Nat.reduceBNe, reduceCtorEq]
        refine fin R12 _ _ b hBe ?_ ?_
        · rw [hg0]; exact GV.nil _
        · rw [hsnil h3]; exact SpentV.nil _
      · rw [gb_ne (hqne h3)]
        simp only [go_sem, ↓reduceIte, Nat.reduceEqDiff, Nat.reduceAdd, Nat.reduceMul, Nat.reduceLeDiff, Nat.reduceLT, Nat.reduceBNe, reduceCtorEq, hr3]
        intro b2 cap2 R9 hle9 hrow hcap hfr
        try simp only [go_sem, ↓reduceIte, Nat.reduceEqDiff, Nat.reduceAdd, Nat.reduceMul, Nat.reduceLeDiff, Nat.reduceLT, Nat.reduceBNe, reduceCtorEq]
        refine fin R9 _ _ b hBe ?_ ?_
        · rw [hg0]; exact GV.nil _
        · exact hSs R9 b2 cap2 hle9 hrow hcap hfr
    · rw [gb_ne (show hs0 ≠ [] from fun e => h0 (by rw [e]; rfl))]
      simp only [go_sem, ↓reduceIte, Nat.reduceEqDiff, Nat.reduceAdd, Nat.reduceMul, Nat.reduceLeDiff, Nat.reduceLT, Nat.reduceBNe, reduceCtorEq, hr3]
      intro b2 cap2 R9 hle9 hrow hcap hfr
      try simp only [go_sem, ↓reduceIte, Nat.reduceEqDiff, Nat.reduceAdd, Nat.reduceMul, Nat.reduceLeDiff, Nat.reduceLT, Nat.reduceBNe, reduceCtorEq, hr3]
      refine leaf_gs (fun h3 => ?_) (fun h3 => ?_)
      · try simp only [go_sem, ↓reduceIte, Nat.reduceEqDiff, Nat.reduceAdd, Nat.reduceMul, Nat.reduceLeDiff, Nat.reduceLT, Nat.reduceBNe, reduceCtorEq]
        refine fin R9 _ _ b hBe (hGs R9 b2 cap2 hle9 hrow hcap hfr R9 (RO.le_refl _)) ?_
        rw [hsnil h3]; exact SpentV.nil _
      · rw [gb_ne (hqne h3)]
        simp only [go_sem, ↓reduceIte, Nat.reduceEqDiff, Nat.reduceAdd, Nat.reduceMul, Nat.reduceLeDiff, Nat.reduceLT, Nat.reduceBNe, reduceCtorEq, hr3]
        intro b3 cap3 R10 hle10 hrow3 hcap3 hfr3
        try simp only [go_sem, ↓reduceIte, Nat.reduceEqDiff, Nat.reduceAdd, Nat.reduceMul, Nat.reduceLeDiff, Nat.reduceLT, Nat.reduceBNe, reduceCtorEq]
        exact fin R10 _ _ b hBe (hGs R9 b2 cap2 hle9 hrow hcap hfr R10 hle10) (hSs R10 b3 cap3 (RO.le_trans hle9 hle10) hrow3 hcap3 fun a u hx => hfr3 a u (hle9 _ _ hx))
  rintro s' ⟨hne, env, z, rfl, e3, e6, e8, e9, e10, e11⟩
  have hKG := kg_of h2 h3 hne
  rw [tCode_seq]
  refine cutT (AlQ b gv sv hs0 ps c R11 (keepG b.groups p q) (goneG b.groups p q)) ?_ ?_
  · try simp only [go_sem, ↓reduceIte, Nat.reduceEqDiff, Nat.reduceAdd, Nat.reduceMul, Nat.reduceLeDiff, Nat.reduceLT, Nat.reduceBNe, reduceCtorEq, e3, e6, e8, e9, e10, e11]
    have hsw : ∀ {x y : Int}, x = keepG b.groups p q → y = goneG b.groups p q → SV.val (.int .i64 x) = SV.val (.int .i64 (keepG b.groups p q)) ∧ SV.val (.int .i64 y) = SV.val (.int .i64 (goneG b.groups p q)) := fun h1 h2 => by rw [h1, h2]; exact ⟨rfl, rfl⟩
    have hpos : (grpOf b.groups p < 0 ∨ (0 ≤ grpOf b.groups q ∧ grpOf b.groups q < grpOf b.groups p)) → keepG b.groups p q = grpOf b.groups q ∧ goneG b.groups p q = grpOf b.groups p := fun h => by unfold keepG goneG; rw [if_pos h, if_pos h]; exact ⟨rfl, rfl⟩
    have hneg : ¬ (grpOf b.groups p < 0 ∨ (0 ≤ grpOf b.groups q ∧ grpOf b.groups q < grpOf b.groups p)) → keepG b.groups p q = grpOf b.groups p ∧ goneG b.groups p q = grpOf b.groups q := fun h => by unfold keepG goneG; rw [if_neg h, if_neg h]; exact ⟨rfl, rfl⟩
    refine ⟨fun a1 => ⟨fun a2 => ⟨fun a3 => ?_, fun a3 => ?_⟩, fun a2 => ?_⟩, fun a1 => ?_⟩
    · obtain ⟨u1, u2⟩ := hpos (by omega)
      refine ⟨_, _, rfl, ?_⟩
      try simp only [go_sem, ↓reduceIte, Nat.reduceEqDiff, Nat.reduceAdd, Nat.reduceMul, Nat.reduceLeDiff, Nat.reduceLT, Nat.reduceBNe, reduceCtorEq, e3, e6, e8, e9, e10, e11]
      rw [u1, u2]; exact ⟨rfl, rfl⟩
    · obtain ⟨u1, u2⟩ := hneg (by omega)
      refine ⟨_, _, rfl, ?_⟩
      try simp only [go_sem, ↓reduceIte, Nat.reduceEqDiff, Nat.reduceAdd, Nat.reduceMul, Nat.reduceLeDiff, Nat.reduceLT, Nat.reduceBNe, reduceCtorEq, e3, e6, e8, e9, e10, e11]
      rw [u1, u2]; exact ⟨rfl, rfl⟩
    · obtain ⟨u1, u2⟩ := hneg (by omega)
      refine ⟨_, _, rfl, ?_⟩
      try simp only [go_sem, ↓reduceIte, Nat.reduceEqDiff, Nat.reduceAdd, Nat.reduceMul, Nat.reduceLeDiff, Nat.reduceLT, Nat.reduceBNe, reduceCtorEq, e3, e6, e8, e9, e10, e11]
      rw [u1, u2]; exact ⟨rfl, rfl⟩
    · obtain ⟨u1, u2⟩ := hpos (by omega)
      refine ⟨_, _, rfl, ?_⟩
      try simp only [go_sem, ↓reduceIte, Nat.reduceEqDiff, Nat.reduceAdd, Nat.reduceMul, Nat.reduceLeDiff, Nat.reduceLT, Nat.reduceBNe, reduceCtorEq, e3, e6, e8, e9, e10, e11]
      rw [u1, u2]; exact ⟨rfl, rfl⟩
  obtain ⟨keep, hkeep⟩ : ∃ x, x = keepG b.groups p q := ⟨_, rfl⟩
  obtain ⟨gone, hgone⟩ : ∃ x, x = goneG b.groups p q := ⟨_, rfl⟩
  rw [← hkeep, ← hgone] at hKG ⊢
  rintro s' ⟨env, z, rfl, e3, e6, e8, e9, e10, e11⟩
  have hmem : ∀ (x : Int) (hx : x < b.groups.length) (hlo : -1000000 ≤ x) (R' : RO) (a : Option Addr) (cap : Nat), RO.le R5 R' → EncV (fun x : Value => [x]) 1 R' (.slice a hs0.length cap) hs0 → CallsR Tryz.prog 46 [.slice a hs0.length cap, .int .i64 x] R' fun R'' r => (0 ≤ x → some r = hs0[x.toNat]?) ∧ (x < 0 → IntV (newR R' R'') r [-1 - x]) := fun x hx hlo R' a cap hle hv => bMembers b.groups hs0 x hx hlo a cap R' (hN R' hle) hv
  -- what members hands back can be read
  have hmv : ∀ (x : Int) (hx : x < b.groups.length) (r : Value) (R' R'' R3 : RO), RO.le R5 R3 → RO.le (newR R' R'') R3 → (0 ≤ x → some r = hs0[x.toNat]?) ∧ (x < 0 → IntV (newR R' R'') r [-1 - x]) → IntV R3 r (membersD b.groups x) := fun x hx r R' R'' R3 hle hn ⟨g1, g2⟩ => by
    unfold membersD
    split
    · rename_i h; exact (g2 h).mono hn
    · rename_i h
      have hlt : x.toNat < hs0.length := by omega
      have hlt' : x.toNat < b.groups.length := by omega
      have := g1 (by omega)
      rw [List.getElem?_eq_getElem hlt, Option.some.injEq] at this
      rw [this, List.getD_eq_getElem?_getD, List.getElem?_eq_getElem hlt']
      exact (hN R3 hle).val x.toNat hlt hlt'
  try simp only [go_sem, ↓reduceIte, Nat.reduceEqDiff, Nat.reduceAdd, Nat.reduceMul, Nat.reduceLeDiff, Nat.reduceLT, Nat.reduceBNe, reduceCtorEq, e3, e6, e8, e9, e10, e11]
  refine vlendG ?_
  intro β κ R12 hL12
  obtain ⟨a12, cap12, e12, hv12⟩ := gsV (j := 2) (hs := hs0) hL12 rfl (by omega)
  refine ⟨_, (by rw [List.map_cons, List.map_cons, List.map_nil, e12]; exact hmem keep hKG.hi.1 hKG.lo.1 R12 a12 cap12 (RO.le_trans hle5b hL12.1) hv12), ?_⟩
  intro R13 v1 R14 hle13' hpost1 hle14' hnew1
  have hv1 := hmv keep hKG.hi.1 v1 R12 R13 R14 (RO.le_trans hle5b hle14') (fun a u hn => hnew1 a u hn.1 hn.2) hpost1
  try simp only [go_sem, ↓reduceIte, Nat.reduceEqDiff, Nat.reduceAdd, Nat.reduceMul, Nat.reduceLeDiff, Nat.reduceLT, Nat.reduceBNe, reduceCtorEq, e3, e6, e8, e9, e10, e11]
  refine vlendG ?_
  intro β2 κ2 R15 hL15
  obtain ⟨a15, cap15, e15, hv15⟩ := gsV (j := 2) (hs := hs0) hL15 rfl (by omega)
  refine ⟨_, (by rw [List.map_cons, List.map_cons, List.map_nil, e15]; exact hmem gone hKG.hi.2 hKG.lo.2 R15 a15 cap15 (RO.le_trans (RO.le_trans hle5b hle14') hL15.1) hv15), ?_⟩
  intro R16 v2 R17 hle16' hpost2 hle17' hnew2
  have hv2 := hmv gone hKG.hi.2 v2 R15 R16 R17 (RO.le_trans (RO.le_trans hle5b hle14') hle17') (fun a u hn => hnew2 a u hn.1 hn.2) hpost2
  have hv1' := hv1.mono hle17'
  have hml1 := membersD_len hB.groups hKG.hi.1
  have hml2 := membersD_len hB.groups hKG.hi.2
  obtain ⟨m1, hm1⟩ : ∃ m, m = membersD b.groups keep := ⟨_, rfl⟩
  obtain ⟨m2, hm2⟩ : ∃ m, m = membersD b.groups gone := ⟨_, rfl⟩
  rw [← hm1] at hml1 hv1'
  rw [← hm2] at hml2 hv2
  obtain ⟨va1, vc1, rfl, -, -⟩ := EncV.form hv1'
  obtain ⟨va2, vc2, rfl, -, -⟩ := EncV.form hv2
  try simp only [go_sem, ↓reduceIte, Nat.reduceEqDiff, Nat.reduceAdd, Nat.reduceMul, Nat.reduceLeDiff, Nat.reduceLT, Nat.reduceBNe, reduceCtorEq, e3, e6, e8, e9, e10, e11]
  have hHH : HsV R17 [.slice va1 m1.length vc1, .slice va2 m2.length vc2] [m1, m2] := ⟨rfl, fun i h h' => by
    match i, h, h' with
    | 0, _, _ => exact hv1'
    | 1, _, _ => exact hv2⟩
  have hflat : [m1, m2].flatten = m1 ++ m2 := by simp
  have hC := bConcat [.slice va1 m1.length vc1, .slice va2 m2.length vc2] [m1, m2] R17 hHH (by rw [hflat, List.length_append]; omega) (by rw [hflat, List.length_append]; omega) (by simp)
  rw [hflat] at hC
  refine vhand [5] [.sl 0 2] [.row 64 1 [.slice va1 m1.length vc1, .slice va2 m2.length vc2]] hC rfl rfl rfl ?_ (by simp) rfl rfl ?_
  · try simp only [go_sem, ↓reduceIte, Nat.reduceEqDiff, Nat.reduceAdd, Nat.reduceMul, Nat.reduceLeDiff, Nat.reduceLT, Nat.reduceBNe, reduceCtorEq]
  rintro R18 bs r hle18 ⟨rfl, b5, rfl, rfl⟩ _
  try simp only [go_sem, ↓reduceIte, Nat.reduceEqDiff, Nat.reduceAdd, Nat.reduceMul, Nat.reduceLeDiff, Nat.reduceLT, Nat.reduceBNe, reduceCtorEq, setG, rn, e3, e6, e8, e9, e10, e11]
  have hr4 : (5 :: List.range' 6 (2 - 1)).getD 1 1 = 6 := rfl
  refine vhand [6] [.sl 0 (m1 ++ m2).length] [.row 3 1 ((m1 ++ m2).map (.int .i64))] (bSortI (m1 ++ m2) (by rw [List.length_append]; omega) R18) ?_ rfl rfl ?_ (by simp) rfl rfl ?_
  · rw [List.length_append]; rfl
  · try simp only [go_sem, ↓reduceIte, Nat.reduceEqDiff, Nat.reduceAdd, Nat.reduceMul, Nat.reduceLeDiff, Nat.reduceLT, Nat.reduceBNe, reduceCtorEq]
    rfl
  rintro R19 bs r hle19 ⟨rfl, rfl, rfl⟩ _
  (refine cutS (fun s' => s' = ?_) ?_ ?_; rotate_left; (try simp only [go_sem, ↓reduceIte, Nat.reduceEqDiff, Nat.reduceAdd, Nat.reduceMul, Nat.reduceLeDiff, Nat.reduceLT, Nat.reduceBNe, reduceCtorEq, setG, rn, e3, e6, e8, e9, e10, e11]; rfl); rintro _ rfl)
  refine seqA (seqA ?_)
  rw [tCode_seq]
  refine cutT (AlQ3 b gv sv ps c R R19 keep gone) ?_ ?_
  · try simp only [go_sem, ↓reduceIte, Nat.reduceEqDiff, Nat.reduceAdd, Nat.reduceMul, Nat.reduceLeDiff, Nat.reduceLT, Nat.reduceBNe, reduceCtorEq, e3, e6, e8, e9, e10, e11]
    have hsl := List.length_mergeSort (m1 ++ m2) (le := fun x y => decide (x ≤ y))
    have hnew : ∀ (R20 : RO) b2 cap2, RO.le R19 R20 → RowIn R20 b2 ((sortI (m1 ++ m2)).map (.int .i64)) → (sortI (m1 ++ m2)).length ≤ cap2 * 1 → Fresh R19 b2 → IntV (newR R R20) (.slice (some ⟨b2, 0, none⟩) (m1 ++ m2).length cap2) (sortI (m1 ++ m2)) := fun R20 b2 cap2 hle hrow hcap hfr => by
      have h1 : IntV (newR R R20) (.slice (some ⟨b2, 0, none⟩) (sortI (m1 ++ m2)).length cap2) (sortI (m1 ++ m2)) := RowIn.enc (enc := fun x : Int => [Value.int .i64 x]) (k := 1) (fun _ => rfl) (by omega) (by rw [flat1]; exact hrow.new hfr (RO.le_trans hle14 (RO.le_trans hle5b (RO.le_trans hle14' hle17')))) (by rw [flat1, List.length_map]; exact hcap) (by unfold sortI; rw [hsl, List.length_append]; omega)
      have h2 : (sortI (m1 ++ m2)).length = (m1 ++ m2).length := hsl
      rw [h2] at h1
      exact h1
    have hHn : ∀ R20 : RO, RO.le R19 R20 → HsV (newR R R20) hs0 b.groups := fun R20 hle => hH.mono fun a u hn => ⟨hle _ _ (hle17' _ _ (hle14' _ _ (hle5b _ _ hn.1))), (newR_sub hle13 _ _ hn).2⟩
    refine ⟨fun hk0 => ?_, fun hk0 => ?_⟩
    · refine vgrow hs0 (fun h0 => by rw [gb_ne h0]; rfl) (fun h0 => by rw [h0, gb_nil]; rfl) (by omega) (by omega) (by omega) (by omega) ?_
      try simp only [go_sem, ↓reduceIte, Nat.reduceEqDiff, Nat.reduceAdd, Nat.reduceMul, Nat.reduceLeDiff, Nat.reduceLT, Nat.reduceBNe, reduceCtorEq, e3, e6, e8, e9, e10, e11]
      have hr5 : (List.range' 6 (2 - 1)).getD 0 1 = 6 := rfl
      refine ⟨by omega, ?_⟩
      try simp only [go_sem, ↓reduceIte, Nat.reduceEqDiff, Nat.reduceAdd, Nat.reduceMul, Nat.reduceLeDiff, Nat.reduceLT, Nat.reduceBNe, reduceCtorEq, hr5]
      intro b2 cap2 R20 hle20 hrow hcap hfr
      try simp only [go_sem, ↓reduceIte, Nat.reduceEqDiff, Nat.reduceAdd, Nat.reduceMul, Nat.reduceLeDiff, Nat.reduceLT, Nat.reduceBNe, reduceCtorEq, hr5, e3, e6, e8, e9, e10, e11]
      have hput : putAt hs0.length (hs0 ++ [Value.slice none 0 0]) [Value.slice (some ⟨b2, 0, none⟩) (m1 ++ m2).length cap2] = hs0 ++ [Value.slice (some ⟨b2, 0, none⟩) (m1 ++ m2).length cap2] := by simp [putAt]
      refine ⟨_, _, 8, hs0 ++ [Value.slice (some ⟨b2, 0, none⟩) (m1 ++ m2).length cap2], _, rfl, hle20, ?_⟩
      try simp only [go_sem, ↓reduceIte, Nat.reduceEqDiff, Nat.reduceAdd, Nat.reduceMul, Nat.reduceLeDiff, Nat.reduceLT, Nat.reduceBNe, reduceCtorEq, hr5, e3, e6, e8, e9, e10, e11]
      rw [← List.length_append]
      refine ⟨by simp, .inr trivial, by unfold intoG; rw [if_pos hk0, hHl], ?_⟩
      unfold gs2D
      rw [if_pos hk0, ← hm1, ← hm2]
      exact (hHn R20 hle20).push (hnew R20 b2 cap2 hle20 hrow (by simpa using hcap) hfr)
    · have hkh := hKG.hi
      have hrb : ∀ ρ T sz cs, renB ρ (.row T sz cs) = .row T sz cs := fun _ _ _ _ => rfl
      have hgs : gs 2 hs0.length = .sl 2 hs0.length := gs_pos (by omega)
      have hr5 : (List.range' 6 (2 - 1)).getD 0 1 = 6 := rfl
      rw [gb_ne (show hs0 ≠ [] from fun e => by rw [e] at hHl; have := hKG.hi.1; simp at hHl; omega)]
      try simp only [go_sem, ↓reduceIte, Nat.reduceEqDiff, Nat.reduceAdd, Nat.reduceMul, Nat.reduceLeDiff, Nat.reduceLT, Nat.reduceBNe, reduceCtorEq, hgs, hrb, hr5, e3, e6, e8, e9, e10, e11]
      refine ⟨by omega, by omega, ?_⟩
      intro b2 cap2 R20 hle20 hrow hcap hfr
      try simp only [go_sem, ↓reduceIte, Nat.reduceEqDiff, Nat.reduceAdd, Nat.reduceMul, Nat.reduceLeDiff, Nat.reduceLT, Nat.reduceBNe, reduceCtorEq, hgs, hrb, hr5, e3, e6, e8, e9, e10, e11]
      refine ⟨by omega, _, _, 2, hs0.set keep.toNat (Value.slice (some ⟨b2, 0, none⟩) (m1 ++ m2).length cap2), _, rfl, hle20, ?_⟩
      try simp only [go_sem, ↓reduceIte, Nat.reduceEqDiff, Nat.reduceAdd, Nat.reduceMul, Nat.reduceLeDiff, Nat.reduceLT, Nat.reduceBNe, reduceCtorEq, hgs, hrb, hr5, e3, e6, e8, e9, e10, e11]
      rw [← List.length_append]
      refine ⟨by unfold intoG; rw [if_neg hk0], ?_⟩
      unfold gs2D
      rw [if_neg hk0, ← hm1, ← hm2]
      exact (hHn R20 hle20).set keep.toNat (hnew R20 b2 cap2 hle20 hrow (by simpa using hcap) hfr)
  rintro s' ⟨env, bk, jg, hs2, R20, rfl, hle20, hb0, hb1, hb4, hbj, hjg, e3, e6, e8, e9, e10, e11, e13, hH2⟩
  have hinto : keep ≠ intoG b.groups keep ∨ keep = intoG b.groups keep := by omega
  obtain ⟨into, hi0⟩ : ∃ x, x = intoG b.groups keep := ⟨_, rfl⟩
  rw [← hi0] at e13 hinto
  have hgi : gone ≠ into := by
    have h1 := hKG.hi
    have h2 := hKG.ne
    have h3 := hKG.ord
    rw [hi0]
    unfold intoG
    split <;> omega
  have hib : -1000000 ≤ into ∧ into ≤ 1000000 := by
    have h1 := hKG.hi
    have h2 := hKG.lo
    have h3 := hB.groups.len
    rw [hi0]
    unfold intoG
    split <;> omega
  have hle520 : RO.le R5 R20 := RO.le_trans hle5b (RO.le_trans hle14' (RO.le_trans hle17' hle20))
  obtain ⟨V0, hV0⟩ : ∃ V, V = view b.spent := ⟨_, rfl⟩
  have hI0 : InvL 0 (stepJ keep gone into V0 0 0) (ps.map (·.1)) := by
    refine ⟨fun s hs => ?_, fun g k t => ?_, by rw [hps]; exact hr.len⟩
    · rw [hps] at hs
      have h1 := hB.okC hr s hs
      have h2 := hB.each s hs
      have h3 := hB.groups.len
      have h4 := h2.group
      have h5 := h2.alone
      refine ⟨?_, h1.grain, h1.nor, h1.rng, h1.ne, by have := (hr.spent s hs).len; simpa using this⟩
      rcases Int.lt_or_le s.group 0 with hneg | hpos
      · have := personB_bd (h5 hneg).1
        have h6 := (h5 hneg).1
        unfold personB at h6
        simp only [Bool.and_eq_true, decide_eq_true_eq] at h6
        omega
      · omega
    · rw [hV0, hps]; rfl
  try simp only [go_sem, ↓reduceIte, Nat.reduceEqDiff, Nat.reduceAdd, Nat.reduceMul, Nat.reduceLeDiff, Nat.reduceLT, Nat.reduceBNe, reduceCtorEq, e3, e6, e8, e9, e10, e11, e13]
  refine vcLoopR (Nat × List Le × Nat) (fun x => [(14, .val (.int .i64 (1 + x.1))), (3, .loc 0 0), (6, .loc 1 0), (8, .sl 2 hs2.length), (9, .mp 3), (10, .val (.int .i64 keep)), (11, .val (.int .i64 gone)), (13, .val (.int .i64 into))])
    (fun x => [.box [.val (.int .i64 b.limit), .val gv, .val sv], .box [.val (.int .i64 0), .val (.slice none 0 0), .val (.slice none 0 0)], .row 64 1 hs2, .mp (ents x.2.1) x.2.2])
    (fun x R' => x.1 ≤ 4 ∧ LedOK R' x.2.1 x.2.2 ∧ InvL (2 * x.1) (stepJ keep gone into V0 x.1 0) (x.2.1.map (·.1))) (fun x => 4 - x.1) (0, ps, c) [0, 1, jg, 4] ?_ ?_ ?_ ?_
  · try simp only [go_sem, ↓reduceIte, Nat.reduceEqDiff, Nat.reduceAdd, Nat.reduceMul, Nat.reduceLeDiff, Nat.reduceLT, Nat.reduceBNe, reduceCtorEq, e3, e6, e8, e9, e10, e11, e13]
    exact ⟨rfl, hb0, hb1, hbj, hb4⟩
  · rcases hjg with rfl | rfl
    · simp only [go_sem, ↓reduceIte, Nat.reduceEqDiff, Nat.reduceAdd, Nat.reduceMul, Nat.reduceLeDiff, Nat.reduceLT, Nat.reduceBNe, reduceCtorEq, inScope]
      decide
    · simp only [go_sem, ↓reduceIte, Nat.reduceEqDiff, Nat.reduceAdd, Nat.reduceMul, Nat.reduceLeDiff, Nat.reduceLT, Nat.reduceBNe, reduceCtorEq, inScope]
      decide
  · exact ⟨Nat.zero_le _, hL.mono hle520, hI0⟩
  rintro ⟨i, ps1, c1⟩ env1 R21 hle21 hE ⟨hi, hL1, hI1⟩
  (simp only [go_sem] at hE; obtain ⟨e14, e3', e6', e8', e9', e10', e11', e13'⟩ := hE; simp only [go_sem, ↓reduceIte, Nat.reduceEqDiff, Nat.reduceAdd, Nat.reduceMul, Nat.reduceLeDiff, Nat.reduceLT, Nat.reduceBNe, reduceCtorEq, e14, e3', e6', e8', e9', e10', e11', e13']; dsimp only at *)
  refine ⟨fun hlt => ?_, fun hge => ?_⟩
  · refine vcLoopR (Nat × List Le × Nat) (fun x => [(96, .val (.int .i64 x.1)), (95, .val (.int .i64 2)), (94, .sl 4 2), (14, .val (.int .i64 (1 + i))), (3, .loc 0 0), (6, .loc 1 0), (8, .sl 2 hs2.length), (9, .mp 3), (10, .val (.int .i64 keep)), (11, .val (.int .i64 gone)), (13, .val (.int .i64 into))])
      (fun x => [.box [.val (.int .i64 b.limit), .val gv, .val sv], .box [.val (.int .i64 0), .val (.slice none 0 0), .val (.slice none 0 0)], .row 64 1 hs2, .mp (ents x.2.1) x.2.2, .row 3 1 [.int .i64 keep, .int .i64 gone]])
      (fun x R' => x.1 ≤ 2 ∧ LedOK R' x.2.1 x.2.2 ∧ InvL (2 * i + x.1) (stepJ keep gone into V0 i x.1) (x.2.1.map (·.1))) (fun x => 2 - x.1) (0, ps1, c1) [] ?_ ?_ ?_ ?_
    · (try simp only [go_sem, ↓reduceIte, Nat.reduceEqDiff, Nat.reduceAdd, Nat.reduceMul, Nat.reduceLeDiff, Nat.reduceLT, Nat.reduceBNe, reduceCtorEq]) <;> (repeat' (first | rfl | trivial | constructor | (intro h; exact absurd rfl h)))
    · try simp only [go_sem, ↓reduceIte, Nat.reduceEqDiff, Nat.reduceAdd, Nat.reduceMul, Nat.reduceLeDiff, Nat.reduceLT, Nat.reduceBNe, reduceCtorEq]
    · exact ⟨Nat.zero_le _, hL1, hI1⟩
    rintro ⟨j, ps2, c2⟩ env2 R22 hle22 hE ⟨hj, hL2, hI2⟩
    (simp only [go_sem] at hE; obtain ⟨e96, e95, e94, e14'', e3'', e6'', e8'', e9'', e10'', e11'', e13''⟩ := hE; simp only [go_sem, ↓reduceIte, Nat.reduceEqDiff, Nat.reduceAdd, Nat.reduceMul, Nat.reduceLeDiff, Nat.reduceLT, Nat.reduceBNe, reduceCtorEq, e96, e95, e94, e14'', e3'', e6'', e8'', e9'', e10'', e11'', e13'']; dsimp only at *)
    refine ⟨fun hlt2 => ?_, fun hge2 => ?_⟩
    · have hj2 : j < 2 := by omega
      have hfr : [Value.int .i64 keep, Value.int .i64 gone][j]? = some (.int .i64 (frJ keep gone j)) := by
        match j, hj2 with
        | 0, _ => rfl
        | 1, _ => rfl
      have hj3 := stepJ_succ (keep := keep) (gone := gone) (into := into) (V := V0) (i := i) hj2
      refine ⟨by omega, _, hfr, ?_⟩
      try simp only [go_sem, ↓reduceIte, Nat.reduceEqDiff, Nat.reduceAdd, Nat.reduceMul, Nat.reduceLeDiff, Nat.reduceLT, Nat.reduceBNe, reduceCtorEq, e96, e95, e94, e14'', e3'', e6'', e8'', e9'', e10'', e11'', e13'']
      refine ⟨fun hne => ?_, fun heq => ?_⟩
      · obtain ⟨r1, v1, g1, g2, g3⟩ := hL2.get (frJ keep gone j) (1 + i)
        have hlk := hI2.look (frJ keep gone j) (1 + i)
        have hpow : (2 : Nat) ^ (2 * i + j) ≤ 2 ^ 8 := Nat.pow_le_pow_right (by omega) (by omega)
        refine vmget (ents ps2) c2 r1 (mEq_pair (frJ keep gone j, 1 + i) (frJ keep gone j, 1 + i) |>.trans (by simp)) rfl g1 ?_
        rw [g2]
        obtain ⟨va, vcap, rfl, -, -⟩ := g3.form
        try simp only [go_sem, ↓reduceIte, Nat.reduceEqDiff, Nat.reduceAdd, Nat.reduceMul, Nat.reduceLeDiff, Nat.reduceLT, Nat.reduceBNe, reduceCtorEq, e96, e95, e94, e14'', e3'', e6'', e8'', e9'', e10'', e11'', e13'']
        obtain ⟨r2, ps3, d1, d2, d3, d4⟩ := hL2.del (frJ keep gone j) (1 + i)
        refine ⟨mEq_pair (frJ keep gone j, 1 + i) (frJ keep gone j, 1 + i) |>.trans (by simp), vmdel (ents ps2) c2 r2 rfl d1 ?_⟩
        rw [d2]
        try simp only [go_sem, ↓reduceIte, Nat.reduceEqDiff, Nat.reduceAdd, Nat.reduceMul, Nat.reduceLeDiff, Nat.reduceLT, Nat.reduceBNe, reduceCtorEq, e96, e95, e94, e14'', e3'', e6'', e8'', e9'', e10'', e11'', e13'']
        have hk2 : (ps2.map (·.1) |>.map seKey).Nodup := by rw [List.map_map]; exact hL2.keys
        have hld := look_drop (f := frJ keep gone j) (into := into) (k := 1 + i) hk2 hne
        have hlk2 := hI2.look into (1 + i)
        have hstep := hI2.step hk2 (k := 1 + i) hne hib (by omega)
        rw [← d4] at hld hstep
        refine vhand [3] [.mp 0, .val (accV into (1 + i)), .val (.slice va (lookD (ps2.map (·.1)) (frJ keep gone j) (1 + i)).length vcap)] [.mp (ents ps3) c2] (bAdd ps3 c2 into (1 + i) _ _ R22 d3 g3 (by rw [hld]; exact hlk2.1) hlk.1 (by rw [hld]; omega)) rfl rfl rfl ?_ (by simp) rfl rfl ?_
        · try simp only [go_sem, ↓reduceIte, Nat.reduceEqDiff, Nat.reduceAdd, Nat.reduceMul, Nat.reduceLeDiff, Nat.reduceLT, Nat.reduceBNe, reduceCtorEq]
        rintro R23 bs r hle23 ⟨ps4, c4, bx, rfl, rfl, hL4, hps4⟩ _
        try simp only [go_sem, ↓reduceIte, Nat.reduceEqDiff, Nat.reduceAdd, Nat.reduceMul, Nat.reduceLeDiff, Nat.reduceLT, Nat.reduceBNe, reduceCtorEq, setG, rn, e96, e95, e94, e14'', e3'', e6'', e8'', e9'', e10'', e11'', e13'']
        rw [← hps4, ← hj3] at hstep
        refine ⟨_, W.in64 (by omega), (j + 1, ps4, c4), [], by show 2 - (j + 1) < _; omega, ?_, ?_, by show j + 1 ≤ 2; omega, hL4, hstep⟩
        · try simp only [go_sem, ↓reduceIte, Nat.reduceEqDiff, Nat.reduceAdd, Nat.reduceMul, Nat.reduceLeDiff, Nat.reduceLT, Nat.reduceBNe, reduceCtorEq]
          exact ⟨rfl, rfl⟩
        · try simp only [go_sem, ↓reduceIte, Nat.reduceEqDiff, Nat.reduceAdd, Nat.reduceMul, Nat.reduceLeDiff, Nat.reduceLT, Nat.reduceBNe, reduceCtorEq]
          exact rnInj_nil _
      · rw [heq] at hj3
        have hstep := hI2.skip (into := into) (k := 1 + i)
        rw [← hj3] at hstep
        refine ⟨_, W.in64 (by omega), (j + 1, ps2, c2), [], by show 2 - (j + 1) < _; omega, ?_, ?_, by show j + 1 ≤ 2; omega, hL2, hstep⟩
        · try simp only [go_sem, ↓reduceIte, Nat.reduceEqDiff, Nat.reduceAdd, Nat.reduceMul, Nat.reduceLeDiff, Nat.reduceLT, Nat.reduceBNe, reduceCtorEq]
          rfl
        · try simp only [go_sem, ↓reduceIte, Nat.reduceEqDiff, Nat.reduceAdd, Nat.reduceMul, Nat.reduceLeDiff, Nat.reduceLT, Nat.reduceBNe, reduceCtorEq]
          exact rnInj_nil _
    · obtain rfl : j = 2 := by omega
      try simp only [go_sem, ↓reduceIte, Nat.reduceEqDiff, Nat.reduceAdd, Nat.reduceMul, Nat.reduceLeDiff, Nat.reduceLT, Nat.reduceBNe, reduceCtorEq, e96, e95, e94, e14'', e3'', e6'', e8'', e9'', e10'', e11'', e13'']
      refine ⟨_, W.in64 (by omega), (i + 1, ps2, c2), [], by show 4 - (i + 1) < _; omega, ?_, ?_, by show i + 1 ≤ 4; omega, hL2, hI2⟩
      · try simp only [go_sem, ↓reduceIte, Nat.reduceEqDiff, Nat.reduceAdd, Nat.reduceMul, Nat.reduceLeDiff, Nat.reduceLT, Nat.reduceBNe, reduceCtorEq]
        rw [show (1 : Int) + i + 1 = 1 + ((i + 1 : Nat) : Int) by omega]
      · try simp only [go_sem, ↓reduceIte, Nat.reduceEqDiff, Nat.reduceAdd, Nat.reduceMul, Nat.reduceLeDiff, Nat.reduceLT, Nat.reduceBNe, reduceCtorEq]
        exact rnInj_nil _
  · obtain rfl : i = 4 := by omega
    have hk1 : (ps1.map (·.1) |>.map seKey).Nodup := by rw [List.map_map]; exact hL1.keys
    have hl2 := hH2.len
    have hps1 : ps1.length ≤ 5000 := by have := hI1.cnt; rw [List.length_map] at this; omega
    have hkh := hKG.hi
    have hgl5 := hB.groups.len
    have hlen2 : hs2.length ≤ 1000000 := by
      rw [hl2]
      have := hB.groups.len
      unfold gs2D
      split <;> simp <;> omega
    have hle0c : RO.le R R21 := RO.le_trans hle14 (RO.le_trans hle520 hle21)
    have hlec : RO.le R20 R21 := hle21
    have hBs : (aliasB b p q).spent = canon (b.spent.map fun s => ⟨if 0 ≤ gone then upG gone (map1 keep gone into s.group) else map1 keep gone into s.group, s.grain, s.cells⟩) := by
      unfold aliasB
      rw [if_neg hne, ← hkeep, ← hgone, hi0]
      rfl
    have hBg0 : (aliasB b p q).groups = if 0 ≤ gone then (gs2D b.groups keep gone).eraseIdx gone.toNat else gs2D b.groups keep gone := by
      unfold aliasB
      rw [if_neg hne, ← hkeep, ← hgone]
      rfl
    have hBl : (aliasB b p q).limit = b.limit := by
      unfold aliasB
      rw [if_neg hne]
    refine ⟨fun hg0 => ⟨_, W.in64 (by omega), ?_⟩, fun hg0 => ?_⟩
    · have hBg : (aliasB b p q).groups = (gs2D b.groups keep gone).eraseIdx gone.toNat := by rw [hBg0, if_pos hg0]
      have hgn : (gone.toNat : Int) = gone := by omega
      have hslices : ∀ v ∈ hs2, ∃ a n c, v = .slice a n c := fun v hv => by
        obtain ⟨x, hx, rfl⟩ := List.mem_iff_getElem.1 hv
        obtain ⟨a, c, e, -, -⟩ := EncV.form (hH2.val x hx (by omega))
        exact ⟨a, _, c, e⟩
      have hlt2 : gone.toNat < hs2.length := by
        rw [hl2]
        unfold gs2D
        split <;> simp <;> omega
      refine vhand [2] [.sl 0 hs2.length, .val (.int .i64 (gone.toNat : Nat)), .val (.int .i64 (gone.toNat + 1 : Nat))] [.row 64 1 hs2] (bDelete hs2 hslices gone.toNat hlt2 (by omega) R21) ?_ rfl rfl ?_ (by simp) rfl rfl ?_
      · rw [show ((gone.toNat : Nat) : Int) = gone from hgn, show ((gone.toNat + 1 : Nat) : Int) = gone + 1 by omega]; rfl
      · try simp only [go_sem, ↓reduceIte, Nat.reduceEqDiff, Nat.reduceAdd, Nat.reduceMul, Nat.reduceLeDiff, Nat.reduceLT, Nat.reduceBNe, reduceCtorEq]
      rintro R22 bs r hle22 ⟨rfl, rfl, rfl⟩ _
      try simp only [go_sem, ↓reduceIte, Nat.reduceEqDiff, Nat.reduceAdd, Nat.reduceMul, Nat.reduceLeDiff, Nat.reduceLT, Nat.reduceBNe, reduceCtorEq, setG, rn, e14, e3', e6', e8', e9', e10', e11', e13']
      refine vhand [3] [.mp 0, .val (.int .i64 gone)] [.mp (ents ps1) c1] (bMoved ps1 c1 gone R22 hL1 (fun p hp => hI1.gone hk1 hgi hKG.ne _ (List.mem_map_of_mem hp)) (fun p hp => by have := (hI1.ok _ (List.mem_map_of_mem hp)).grp; unfold I64; omega) (by omega)) rfl rfl rfl ?_ (by simp) rfl rfl ?_
      · try simp only [go_sem, ↓reduceIte, Nat.reduceEqDiff, Nat.reduceAdd, Nat.reduceMul, Nat.reduceLeDiff, Nat.reduceLT, Nat.reduceBNe, reduceCtorEq]
      rintro R23 bs r hle23 ⟨rfl, ps5, c5, bz, rfl, rfl, hL5, hp5⟩ _
      try simp only [go_sem, ↓reduceIte, Nat.reduceEqDiff, Nat.reduceAdd, Nat.reduceMul, Nat.reduceLeDiff, Nat.reduceLT, Nat.reduceBNe, reduceCtorEq, setG, rn, e14, e3', e6', e8', e9', e10', e11', e13']
      have hel : (hs2.eraseIdx gone.toNat).length = hs2.length - 1 := by rw [List.length_eraseIdx, if_pos hlt2]
      have hps5 : ps5.length ≤ 5000 := by
        have := hp5.length_eq
        rw [List.length_map, List.length_map, List.length_map] at this
        omega
      refine vshow [4] [.mp 0] [.mp (ents ps5) c5] (bClose ps5 c5 R23 hL5 (show ps5.length ≤ 1000000 by omega)) rfl rfl rfl ?_ (by simp) rfl rfl (fun R' bs' r h => by obtain ⟨b1, qs, rfl, _⟩ := h; rfl) ?_
      { try simp only [go_sem, ↓reduceIte, Nat.reduceEqDiff, Nat.reduceAdd, Nat.reduceMul, Nat.reduceLeDiff, Nat.reduceLT, Nat.reduceBNe, reduceCtorEq]
        try rfl }
      rintro R30 bs r hle30 ⟨b1, qs, rfl, rfl, hq1, hq2, hq3⟩ _
      have hrb : ∀ ρ T sz cs, renB ρ (.row T sz cs) = .row T sz cs := fun _ _ _ _ => rfl
      try simp only [go_sem, ↓reduceIte, Nat.reduceEqDiff, Nat.reduceAdd, Nat.reduceMul, Nat.reduceLeDiff, Nat.reduceLT, Nat.reduceBNe, reduceCtorEq, hrb, renB_gb, setG, rn, ren_gs, e14, e3', e6', e8', e9', e10', e11', e13']
      have hsp : qs.map (·.1) = (aliasB b p q).spent := by
        rw [hBs]
        exact alias_spent hB.keys (fun s hs => (hB.okC hr s hs).grain) hgi hKG.ne hk1 (by rw [← hV0]; exact hI1) hq2 (.inr ⟨hg0, hq1.trans hp5⟩)
      have hr3 : (List.range' 6 (3 - 1)).getD 1 2 = 7 := rfl
      have hql : qs.length ≤ 1000000 := by
        have h3 := hq1.length_eq
        rw [List.length_map, List.length_map] at h3
        have := (show ps5.length ≤ 1000000 by omega)
        omega
      have hqne : qs.length ≠ 0 → rowP qs ≠ [] := fun h e => by
        have := rowP_len qs
        rw [e] at this
        simp at this
        omega
      have hsnil : qs.length = 0 → (aliasB b p q).spent = [] := fun h => by rw [← hsp, List.eq_nil_of_length_eq_zero h]; rfl
      have hle030 : RO.le R R30 := RO.le_trans hle0c hle30
      intro b2 cap2 R31 hle31 hrow hcap hfr
      have hGs : ∀ R32, RO.le R31 R32 → GV (newR R R32) (.slice (some ⟨b2, 0, none⟩) (hs2.eraseIdx gone.toNat).length cap2) (aliasB b p q).groups := fun R32 hle32 => by
        rw [hBg]
        exact ((hH2.erase gone.toNat).mono (fun a u hn => ⟨hle32 _ _ (hle31 _ _ (hle30 _ _ (hlec _ _ hn.1))), hn.2⟩)).gv (rowX (ex := [.slice none 0 0]) (fun i v hi => newR_mono hle32 _ _ ((hrow.new hfr hle030) i v (by simpa using hi))) (by simpa using hcap) (by rw [hel]; omega))
      have hSs : ∀ (R32 : RO) b3 cap3, RO.le R31 R32 → RowIn R32 b3 (rowP qs) → (rowP qs).length ≤ cap3 * 3 → Fresh R31 b3 → SpentV (newR R R32) (.slice (some ⟨b3, 0, none⟩) qs.length cap3) (aliasB b p q).spent := fun R32 b3 cap3 hle32 hrow hcap hfr =>
        SpentV.of (RowIn.enc (enc := Pe.cells) (k := 3) (fun _ => rfl) (by omega) (hrow.new hfr (RO.le_trans hle030 hle31)) hcap (by omega)) hsp fun q hq => (hq3 q hq).mono fun a u hn => ⟨hle32 _ _ (hle31 _ _ hn.1), (newR_sub hle0c _ _ hn).2⟩
      try simp only [go_sem, ↓reduceIte, Nat.reduceEqDiff, Nat.reduceAdd, Nat.reduceMul, Nat.reduceLeDiff, Nat.reduceLT, Nat.reduceBNe, reduceCtorEq, hrb, renB_gb, setG, rn, ren_gs, hr3, e14, e3', e6', e8', e9', e10', e11', e13']
      refine leaf_gs (fun h3 => ?_) (fun h3 => ?_)
      · try simp only [go_sem, ↓reduceIte, Nat.reduceEqDiff, Nat.reduceAdd, Nat.reduceMul, Nat.reduceLeDiff, Nat.reduceLT, Nat.reduceBNe, reduceCtorEq, hrb, hr3, e14, e3', e6', e8', e9', e10', e11', e13']
        have hf := fin R31 _ _ (aliasB b p q) rfl (hGs R31 (RO.le_refl _)) (show SpentV (newR R R31) (.slice none 0 0) (aliasB b p q).spent by rw [hsnil h3]; exact SpentV.nil _)
        rw [hBl, hel] at hf
        exact hf
      · rw [gb_ne (hqne h3)]
        try simp only [go_sem, ↓reduceIte, Nat.reduceEqDiff, Nat.reduceAdd, Nat.reduceMul, Nat.reduceLeDiff, Nat.reduceLT, Nat.reduceBNe, reduceCtorEq, hrb, hr3, e14, e3', e6', e8', e9', e10', e11', e13']
        intro b3 cap3 R32 hle32 hrow3 hcap3 hfr3
        try simp only [go_sem, ↓reduceIte, Nat.reduceEqDiff, Nat.reduceAdd, Nat.reduceMul, Nat.reduceLeDiff, Nat.reduceLT, Nat.reduceBNe, reduceCtorEq, hrb, hr3, e14, e3', e6', e8', e9', e10', e11', e13']
        have hf := fin R32 _ _ (aliasB b p q) rfl (hGs R32 hle32) (hSs R32 b3 cap3 hle32 hrow3 hcap3 hfr3)
        rw [hBl, hel] at hf
        exact hf
    · have hBg : (aliasB b p q).groups = gs2D b.groups keep gone := by rw [hBg0, if_neg hg0]
      refine vshow [3] [.mp 0] [.mp (ents ps1) c1] (bClose ps1 c1 R21 hL1 (show ps1.length ≤ 1000000 by omega)) rfl rfl rfl ?_ (by simp) rfl rfl (fun R' bs' r h => by obtain ⟨b1, qs, rfl, _⟩ := h; rfl) ?_
      { try simp only [go_sem, ↓reduceIte, Nat.reduceEqDiff, Nat.reduceAdd, Nat.reduceMul, Nat.reduceLeDiff, Nat.reduceLT, Nat.reduceBNe, reduceCtorEq]
        try rfl }
      rintro R30 bs r hle30 ⟨b1, qs, rfl, rfl, hq1, hq2, hq3⟩ _
      have hrb : ∀ ρ T sz cs, renB ρ (.row T sz cs) = .row T sz cs := fun _ _ _ _ => rfl
      try simp only [go_sem, ↓reduceIte, Nat.reduceEqDiff, Nat.reduceAdd, Nat.reduceMul, Nat.reduceLeDiff, Nat.reduceLT, Nat.reduceBNe, reduceCtorEq, hrb, renB_gb, setG, rn, ren_gs, e14, e3', e6', e8', e9', e10', e11', e13']
      have hsp : qs.map (·.1) = (aliasB b p q).spent := by
        rw [hBs]
        exact alias_spent hB.keys (fun s hs => (hB.okC hr s hs).grain) hgi hKG.ne hk1 (by rw [← hV0]; exact hI1) hq2 (.inl ⟨by omega, hq1⟩)
      have hr3 : (List.range' 4 (3 - 1)).getD 1 2 = 5 := rfl
      have hql : qs.length ≤ 1000000 := by
        have h3 := hq1.length_eq
        rw [List.length_map, List.length_map] at h3
        have := (show ps1.length ≤ 1000000 by omega)
        omega
      have hqne : qs.length ≠ 0 → rowP qs ≠ [] := fun h e => by
        have := rowP_len qs
        rw [e] at this
        simp at this
        omega
      have hsnil : qs.length = 0 → (aliasB b p q).spent = [] := fun h => by rw [← hsp, List.eq_nil_of_length_eq_zero h]; rfl
      have hle030 : RO.le R R30 := RO.le_trans hle0c hle30
      intro b2 cap2 R31 hle31 hrow hcap hfr
      have hGs : ∀ R32, RO.le R31 R32 → GV (newR R R32) (.slice (some ⟨b2, 0, none⟩) (hs2).length cap2) (aliasB b p q).groups := fun R32 hle32 => by
        rw [hBg]
        exact ((hH2).mono (fun a u hn => ⟨hle32 _ _ (hle31 _ _ (hle30 _ _ (hlec _ _ hn.1))), hn.2⟩)).gv (rowX (ex := []) (fun i v hi => newR_mono hle32 _ _ ((hrow.new hfr hle030) i v (by simpa using hi))) (by simpa using hcap) (by have := hlen2; omega))
      have hSs : ∀ (R32 : RO) b3 cap3, RO.le R31 R32 → RowIn R32 b3 (rowP qs) → (rowP qs).length ≤ cap3 * 3 → Fresh R31 b3 → SpentV (newR R R32) (.slice (some ⟨b3, 0, none⟩) qs.length cap3) (aliasB b p q).spent := fun R32 b3 cap3 hle32 hrow hcap hfr =>
        SpentV.of (RowIn.enc (enc := Pe.cells) (k := 3) (fun _ => rfl) (by omega) (hrow.new hfr (RO.le_trans hle030 hle31)) hcap (by omega)) hsp fun q hq => (hq3 q hq).mono fun a u hn => ⟨hle32 _ _ (hle31 _ _ hn.1), (newR_sub hle0c _ _ hn).2⟩
      try simp only [go_sem, ↓reduceIte, Nat.reduceEqDiff, Nat.reduceAdd, Nat.reduceMul, Nat.reduceLeDiff, Nat.reduceLT, Nat.reduceBNe, reduceCtorEq, hrb, renB_gb, setG, rn, ren_gs, hr3, e14, e3', e6', e8', e9', e10', e11', e13']
      refine leaf_gs (fun h3 => ?_) (fun h3 => ?_)
      · try simp only [go_sem, ↓reduceIte, Nat.reduceEqDiff, Nat.reduceAdd, Nat.reduceMul, Nat.reduceLeDiff, Nat.reduceLT, Nat.reduceBNe, reduceCtorEq, hrb, hr3, e14, e3', e6', e8', e9', e10', e11', e13']
        have hf := fin R31 _ _ (aliasB b p q) rfl (hGs R31 (RO.le_refl _)) (show SpentV (newR R R31) (.slice none 0 0) (aliasB b p q).spent by rw [hsnil h3]; exact SpentV.nil _)
        rw [hBl] at hf
        exact hf
      · rw [gb_ne (hqne h3)]
        try simp only [go_sem, ↓reduceIte, Nat.reduceEqDiff, Nat.reduceAdd, Nat.reduceMul, Nat.reduceLeDiff, Nat.reduceLT, Nat.reduceBNe, reduceCtorEq, hrb, hr3, e14, e3', e6', e8', e9', e10', e11', e13']
        intro b3 cap3 R32 hle32 hrow3 hcap3 hfr3
        try simp only [go_sem, ↓reduceIte, Nat.reduceEqDiff, Nat.reduceAdd, Nat.reduceMul, Nat.reduceLeDiff, Nat.reduceLT, Nat.reduceBNe, reduceCtorEq, hrb, hr3, e14, e3', e6', e8', e9', e10', e11', e13']
        have hf := fin R32 _ _ (aliasB b p q) rfl (hGs R32 hle32) (hSs R32 b3 cap3 hle32 hrow3 hcap3 hfr3)
        rw [hBl] at hf
        exact hf
end Go.Proofs.YtclkibjonbhldaaGreatDoor
