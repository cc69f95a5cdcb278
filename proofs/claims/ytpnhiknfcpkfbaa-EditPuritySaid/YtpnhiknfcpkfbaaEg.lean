import Derived.Test.YtpnhiknfcpkfbaaEa
namespace Go.Proofs.Ytpnhiknfcpkfbaa
set_option linter.unusedSimpArgs false
set_option linter.unusedVariables false
open Go.Proofs.Ytpnhiknfcpkfbaa.Vc
theorem eCloneInts (xs : List Int) (v : Value) (R : RO) (h : Ints R v xs) (hl : xs.length ≤ 1000000000) : CallsR Try.prog 57 [v] R fun R' u => Ints R' u xs := by
  obtain ⟨a, cap, rfl, hc, hf⟩ := h.form
  refine callsT mix Try.func57 comp57 (by simp [Try.ntmps57]) ?_; simp only [go_sem, ↓reduceIte, Nat.reduceEqDiff, Nat.reduceAdd, Nat.reduceMul, Nat.reduceLeDiff, Nat.reduceLT, Nat.reduceBNe, reduceCtorEq, vc57, rs57]
  refine ⟨fun hn => ?_, fun hs => ?_⟩
  · have : xs = [] := by
      cases xs with
      | nil => rfl
      | cons x r =>
        obtain ⟨ad, e, _⟩ := hf 0 (by simp)
        rw [e] at hn; cases hn
    subst this
    exact Ints.nil R
  · refine vsrc (xs.map (.int .i64)) (by simp) (fun u hu => by obtain ⟨_, _, rfl⟩ := List.mem_map.1 hu; rfl) (fun hne => ?_) ?_
    · cases ha : a with
      | none => rw [ha] at hs; cases hs
      | some ad =>
        refine ⟨ad, rfl, fun i u hi => ?_⟩
        rw [List.getElem?_map] at hi
        obtain ⟨x, hx, rfl⟩ := Option.map_eq_some_iff.1 hi
        obtain ⟨hlt, rfl⟩ := List.getElem?_eq_some_iff.1 hx
        obtain ⟨ad', e, hR⟩ := hf i hlt
        rw [ha] at e
        simp only [Option.some.injEq] at e
        subst e
        exact hR
    try simp only [go_sem, ↓reduceIte, Nat.reduceEqDiff, Nat.reduceAdd, Nat.reduceMul, Nat.reduceLeDiff, Nat.reduceLT, Nat.reduceBNe, reduceCtorEq]
    refine vappO [] rfl rfl (by omega) ?_
    try simp only [go_sem, ↓reduceIte, Nat.reduceEqDiff, Nat.reduceAdd, Nat.reduceMul, Nat.reduceLeDiff, Nat.reduceLT, Nat.reduceBNe, reduceCtorEq]
    intro b cap' R' hle hrow hcap hfr
    have := RowIn.ints (xs := xs) (cap := cap') hrow (by simpa using hcap)
    simpa using this
theorem flat_get {α : Type} {k : Nat} {cs : List (List α)} (hk : ∀ us ∈ cs, us.length = k) (h0 : 0 < k) {i : Nat} {v : α} (h : cs.flatten[i]? = some v) : ∃ us, cs[i / k]? = some us ∧ us[i % k]? = some v := by
  have hlt := (List.getElem?_eq_some_iff.1 h).1
  rw [length_flattenK hk] at hlt
  have hq : i / k < cs.length := (Nat.div_lt_iff_lt_mul h0).2 hlt
  refine ⟨cs[i / k], List.getElem?_eq_getElem hq, ?_⟩
  have h1 := getElem?_flatten hk (i / k) (i % k) _ (List.getElem?_eq_getElem hq) (Nat.mod_lt _ h0)
  rw [Nat.mul_comm, Nat.div_add_mod] at h1
  rw [← h1]; exact h
theorem NodeV.one {R : RO} {c : List Value} {x : Nd} (h : NodeV R c x) : c.length = 8 ∧ ∀ u ∈ c, u.oneCell' = true := by
  obtain ⟨lv, rfl, hI, _⟩ := h
  obtain ⟨_, _, rfl, _⟩ := hI.form
  refine ⟨rfl, fun u hu => ?_⟩
  simp only [Nd.cells, List.mem_cons, List.not_mem_nil, or_false] at hu
  rcases hu with rfl | rfl | rfl | rfl | rfl | rfl | rfl | rfl <;> rfl
theorem eCloneRule (xs : List Nd) (v : Value) (R : RO) (h : RuleV R v xs) (hl : xs.length ≤ 1000000000) : CallsS Try.prog 56 [.val v] [] R fun R' bs r => ∃ cs : List (List Value), cs.length = xs.length ∧ (∀ c ∈ cs, c.length = 8) ∧ (∀ (i : Nat) (c : List Value) (x : Nd), cs[i]? = some c → xs[i]? = some x → NodeV R' c x) ∧
    (xs = [] ∧ bs = [] ∧ r = .val (.slice none 0 0) ∨ bs = [.dead, .row 63 8 cs.flatten] ∧ r = .sl 1 xs.length) := by
  obtain ⟨cs, h1, h2, h3, h4⟩ := h
  obtain ⟨a, cap, rfl, hc, hf⟩ := SlK.form h1
  refine callsTS mix Try.func56 comp56 (by simp [Try.ntmps56]) rfl rfl ?_; simp only [go_sem, ↓reduceIte, Nat.reduceEqDiff, Nat.reduceAdd, Nat.reduceMul, Nat.reduceLeDiff, Nat.reduceLT, Nat.reduceBNe, reduceCtorEq, vc56, rs56]
  refine ⟨fun hn => ?_, fun hs => ?_⟩
  · have hx : xs = [] := by
      cases hcs : cs with
      | nil => rw [hcs] at h2; exact List.eq_nil_of_length_eq_zero h2.symm
      | cons x r =>
        obtain ⟨_, ad, e, _⟩ := hf 0 (by simp [hcs])
        rw [e] at hn; cases hn
    subst hx
    exact ⟨[], rfl, by simp, by simp, rfl⟩
  · have hfl := length_flattenK (k := 8) (xs := cs) (fun us hus => by
      obtain ⟨i, hi, rfl⟩ := List.mem_iff_getElem.1 hus
      exact (hf i hi).1)
    have hn : ∀ c ∈ cs, ∃ x, NodeV R c x := fun c hc' => by
      obtain ⟨i, hi, rfl⟩ := List.mem_iff_getElem.1 hc'
      exact ⟨_, h3 i _ _ (List.getElem?_eq_getElem hi) (List.getElem?_eq_getElem (by omega))⟩
    refine vsrc cs.flatten (by rw [hfl]) (fun u hu => ?_) (fun hne => ?_) ?_
    · obtain ⟨c, hc', hu'⟩ := List.mem_flatten.1 hu
      obtain ⟨x, hx⟩ := hn c hc'
      exact hx.one.2 u hu'
    · cases ha : a with
      | none => rw [ha] at hs; cases hs
      | some ad =>
        refine ⟨ad, rfl, fun i u hi => ?_⟩
        obtain ⟨us, hus, hu⟩ := flat_get (fun us hus => by
          obtain ⟨x, hx⟩ := hn us hus
          exact hx.one.1) (by omega) hi
        obtain ⟨hlt, rfl⟩ := List.getElem?_eq_some_iff.1 hus
        obtain ⟨_, ad', e, hR⟩ := hf _ hlt
        rw [ha] at e
        simp only [Option.some.injEq] at e
        subst e
        have := hR _ _ hu
        rw [add_add, Nat.mul_comm, Nat.div_add_mod] at this
        exact this
    try simp only [go_sem, ↓reduceIte, Nat.reduceEqDiff, Nat.reduceAdd, Nat.reduceMul, Nat.reduceLeDiff, Nat.reduceLT, Nat.reduceBNe, reduceCtorEq]
    refine vappO [] rfl rfl (by omega) ?_
    try simp only [go_sem, ↓reduceIte, Nat.reduceEqDiff, Nat.reduceAdd, Nat.reduceMul, Nat.reduceLeDiff, Nat.reduceLT, Nat.reduceBNe, reduceCtorEq]
    exact ⟨cs, h2, fun c hc => by obtain ⟨x, hx⟩ := hn c hc; exact hx.one.1, h3, .inr ⟨⟨rfl, rfl⟩, by rw [h2]⟩⟩
theorem flat_set {α : Type} {k : Nat} : ∀ (cs : List (List α)) (_ : ∀ us ∈ cs, us.length = k) (i j : Nat) (v : α) (us : List α), cs[i]? = some us → j < k → cs.flatten.set (i * k + j) v = (cs.set i (us.set j v)).flatten
  | [], _, i, j, v, us, h, _ => by simp at h
  | c :: cs, hk, 0, j, v, us, h, hj => by
    simp only [List.getElem?_cons_zero, Option.some.injEq] at h
    subst h
    simp only [List.flatten_cons, Nat.zero_mul, Nat.zero_add, List.set_cons_zero]
    rw [List.set_append_left _ _ (by rw [hk c (by simp)]; exact hj)]
  | c :: cs, hk, i + 1, j, v, us, h, hj => by
    simp only [List.getElem?_cons_succ] at h
    have ih := flat_set cs (fun us hus => hk us (by simp [hus])) i j v us h hj
    have hl := hk c (by simp)
    simp only [List.flatten_cons, List.set_cons_succ]
    rw [List.set_append_right _ _ (by rw [hl, Nat.add_mul]; omega), hl, ← ih]
    congr 2
    rw [Nat.add_mul]; omega
/-- Cells that hold the nodes of a rule. -/
def Nodes (R : RO) (cs : List (List Value)) (xs : List Nd) : Prop := cs.length = xs.length ∧ ∀ (i : Nat) (c : List Value) (x : Nd), cs[i]? = some c → xs[i]? = some x → NodeV R c x
theorem Nodes.mono {R R' : RO} {cs : List (List Value)} {xs : List Nd} (h : Nodes R cs xs) (hle : RO.le R R') : Nodes R' cs xs := ⟨h.1, fun i c x h1 h2 => (h.2 i c x h1 h2).mono hle⟩
theorem Nodes.len {R : RO} {cs : List (List Value)} {xs : List Nd} (h : Nodes R cs xs) : ∀ c ∈ cs, c.length = 8 := fun c hc => by
  obtain ⟨i, hi, rfl⟩ := List.mem_iff_getElem.1 hc
  exact (h.2 i _ _ (List.getElem?_eq_getElem hi) (List.getElem?_eq_getElem (by rw [← h.1]; exact hi))).one.1
theorem eCopied (xs : List Nd) (v : Value) (R : RO) (h : RuleV R v xs) : CallsR Try.prog 45 [v] R fun R' u => RuleV R' u xs := by
  have hxl : xs.length ≤ 1000000000 := by obtain ⟨_, _, _, _, h⟩ := h; exact h
  have hcl := eCloneRule xs v R h hxl
  obtain ⟨cs0, ⟨a, cap, rfl, _⟩, _⟩ := h
  refine callsT mix Try.func45 comp45 (by simp [Try.ntmps45]) ?_; simp only [go_sem, ↓reduceIte, Nat.reduceEqDiff, Nat.reduceAdd, Nat.reduceMul, Nat.reduceLeDiff, Nat.reduceLT, Nat.reduceBNe, reduceCtorEq, vc45, rs45]
  refine vhand0 [] [.val (.slice a cs0.length cap)] [] hcl rfl rfl rfl trivial (by simp) rfl rfl ?_
  rintro R1 bs r hle1 ⟨cs, h1, h2, h3, h4⟩ _
  rcases h4 with ⟨rfl, rfl, rfl⟩ | ⟨rfl, rfl⟩
  · try simp only [go_sem, ↓reduceIte, Nat.reduceEqDiff, Nat.reduceAdd, Nat.reduceMul, Nat.reduceLeDiff, Nat.reduceLT, Nat.reduceBNe, reduceCtorEq, Int.reduceLE, Int.reduceLT, Int.reduceToNat, Int.cast_ofNat_Int, Int.reduceEq, Int.reduceNe]
    refine vcLoop Unit (fun _ => [(9, .val (.int .i64 0)), (8, .val (.int .i64 0)), (3, .val (.slice none 0 0))]) (fun _ => []) (fun _ _ => True) (fun _ => 0) () ?_ rfl trivial ?_
    · (try simp only [go_sem, ↓reduceIte, Nat.reduceEqDiff, Nat.reduceAdd, Nat.reduceMul, Nat.reduceLeDiff, Nat.reduceLT, Nat.reduceBNe, reduceCtorEq]) <;> (repeat' (first | rfl | trivial | constructor | (intro h; exact absurd rfl h)))
    rintro _ env R2 hle hE _
    (simp only [go_sem] at hE; obtain ⟨e9, e8, e3⟩ := hE; simp only [go_sem, ↓reduceIte, Nat.reduceEqDiff, Nat.reduceAdd, Nat.reduceMul, Nat.reduceLeDiff, Nat.reduceLT, Nat.reduceBNe, reduceCtorEq, e9, e8, e3]; dsimp only at *)
    exact ⟨fun h => absurd h (by omega), fun _ => ⟨[], ⟨none, 0, rfl, Nat.le_refl _, by simp⟩, rfl, by simp, by simp⟩⟩
  · try simp only [go_sem, ↓reduceIte, Nat.reduceEqDiff, Nat.reduceAdd, Nat.reduceMul, Nat.reduceLeDiff, Nat.reduceLT, Nat.reduceBNe, reduceCtorEq, Int.reduceLE, Int.reduceLT, Int.reduceToNat, Int.cast_ofNat_Int, Int.reduceEq, Int.reduceNe]
    have hN : Nodes R1 cs xs := ⟨h1, h3⟩
    clear h1 h2 h3 hcl
    refine vcLoop (Nat × List (List Value)) (fun p => [(9, .val (.int .i64 p.1)), (8, .val (.int .i64 xs.length)), (3, .sl 1 xs.length)]) (fun p => [.dead, .row 63 8 p.2.flatten]) (fun p R => p.1 ≤ xs.length ∧ Nodes R p.2 xs) (fun p => xs.length - p.1) (0, cs) ?_ rfl ?_ ?_
    · (try simp only [go_sem, ↓reduceIte, Nat.reduceEqDiff, Nat.reduceAdd, Nat.reduceMul, Nat.reduceLeDiff, Nat.reduceLT, Nat.reduceBNe, reduceCtorEq]) <;> (repeat' (first | rfl | trivial | constructor | (intro h; exact absurd rfl h)))
    · exact ⟨Nat.zero_le _, hN⟩
    rintro ⟨i, cs⟩ env R2 hle hE ⟨hi, hN⟩
    (simp only [go_sem] at hE; obtain ⟨e9, e8, e3⟩ := hE; simp only [go_sem, ↓reduceIte, Nat.reduceEqDiff, Nat.reduceAdd, Nat.reduceMul, Nat.reduceLeDiff, Nat.reduceLT, Nat.reduceBNe, reduceCtorEq, e9, e8, e3]; dsimp only at *)
    have hlen := hN.1
    have h8 := hN.len
    have hfl := length_flattenK h8
    refine ⟨fun hlt => ⟨hlt, ?_⟩, fun hge => ?_⟩
    · have hlt' : i < xs.length := by omega
      have hx := hN.2 i _ _ (List.getElem?_eq_getElem (by omega : i < cs.length)) (List.getElem?_eq_getElem hlt')
      obtain ⟨lv, hcx, hI, hIl⟩ := hx
      have hget : cs.flatten[i * 8 + 6]? = some lv := by
        rw [getElem?_flatten h8 i 6 _ (List.getElem?_eq_getElem (by omega : i < cs.length)) (by omega), hcx]
        rfl
      refine ⟨lv, hget, vcall (eCloneInts _ lv R2 hI hIl) ?_⟩
      intro R3 u hle3 hu
      obtain ⟨ua, ucap, rfl, hucap, huf⟩ := hu.form
      try simp only [go_sem, ↓reduceIte, Nat.reduceEqDiff, Nat.reduceAdd, Nat.reduceMul, Nat.reduceLeDiff, Nat.reduceLT, Nat.reduceBNe, reduceCtorEq, Int.reduceLE, Int.reduceLT, Int.reduceToNat, Int.cast_ofNat_Int, Int.reduceEq, Int.reduceNe, e9, e8, e3]
      refine ⟨hlt, by omega, _, W.in64 (by omega), (i + 1, cs.set i (xs[i].cells (.slice ua (xs[i]).list.length ucap))), by dsimp only; omega, ?_, by dsimp only; omega, by simp [hlen], ?_⟩
      · refine ⟨rfl, ?_⟩
        rw [flat_set cs h8 i 6 _ _ (List.getElem?_eq_getElem (by omega : i < cs.length)) (by omega), hcx]
        rfl
      · intro j c x hj hx
        rw [List.getElem?_set] at hj
        split at hj
        · rename_i hij
          subst hij
          rw [if_pos (by omega)] at hj
          simp only [Option.some.injEq] at hj
          rw [List.getElem?_eq_getElem hlt'] at hx
          simp only [Option.some.injEq] at hx
          subst hj hx
          exact ⟨_, rfl, hu, hIl⟩
        · exact (hN.2 j c x hj hx).mono hle3
    · intro b cap' R3 hle3 hrow hcap hfr
      exact ⟨cs, by rw [← hlen]; exact RowIn.slK hrow h8 (by omega) hcap, hlen, fun j c x hj hx => (hN.2 j c x hj hx).mono hle3, hxl⟩
end Go.Proofs.Ytpnhiknfcpkfbaa
namespace Go.Proofs.Ytpnhiknfcpkfbaa
set_option linter.unusedSimpArgs false
set_option linter.unusedVariables false
open Go.Proofs.Ytpnhiknfcpkfbaa.Vc
theorem eIndex (x n : Int) (h : 1 ≤ n ∧ n ≤ 1000) (R : RO) : CallsR Try.prog 28 [.int .i64 x, .int .i64 n] R fun _ v => v = .int .i64 (x % n) := by
  refine callsT mix Try.func28 comp28 (by simp [Try.ntmps28]) ?_; simp only [go_sem, ↓reduceIte, Nat.reduceEqDiff, Nat.reduceAdd, Nat.reduceMul, Nat.reduceLeDiff, Nat.reduceLT, Nat.reduceBNe, reduceCtorEq, vc28, rs28]
  have h1 := tmod_fix x n h.1
  have h2 := tmod_bd x n h.1
  refine ⟨by omega, fun h => ⟨_, W.in64 (by omega), ?_⟩, fun h => ?_⟩
  · rw [if_pos h] at h1; rw [h1]
  · rw [if_neg h] at h1; rw [h1]
def ruleN (n : Int) : List Nd := [⟨1, 0, 0, 0, 1 + n % 3, 0, [], ⟨#[]⟩⟩]
theorem eRule (n : Int) (R : RO) : CallsR Try.prog 29 [.int .i64 n] R fun R' v => RuleV R' v (ruleN n) := by
  refine callsT mix Try.func29 comp29 (by simp [Try.ntmps29]) ?_; simp only [go_sem, ↓reduceIte, Nat.reduceEqDiff, Nat.reduceAdd, Nat.reduceMul, Nat.reduceLeDiff, Nat.reduceLT, Nat.reduceBNe, reduceCtorEq, vc29, rs29]
  refine vcall (eIndex n 3 (by omega) R) ?_
  rintro R1 v h1 rfl
  try simp only [go_sem, ↓reduceIte, Nat.reduceEqDiff, Nat.reduceAdd, Nat.reduceMul, Nat.reduceLeDiff, Nat.reduceLT, Nat.reduceBNe, reduceCtorEq, Int.reduceLE, Int.reduceLT, Int.reduceToNat, Int.cast_ofNat_Int, Int.reduceEq, Int.reduceNe]
  refine ⟨_, W.in64 (by omega), ?_⟩
  try simp only [go_sem, ↓reduceIte, Nat.reduceEqDiff, Nat.reduceAdd, Nat.reduceMul, Nat.reduceLeDiff, Nat.reduceLT, Nat.reduceBNe, reduceCtorEq, Int.reduceLE, Int.reduceLT, Int.reduceToNat, Int.cast_ofNat_Int, Int.reduceEq, Int.reduceNe]
  intro b cap R' hle hrow hcap hfr
  refine ⟨[[.int .i64 1, .int .i64 0, .int .i64 0, .int .i64 0, .int .i64 (1 + n % 3), .int .i64 0, .slice none 0 0, .string ⟨#[]⟩]], ?_, rfl, ?_, by simp [ruleN]⟩
  · exact RowIn.slK (k := 8) (xs := [[.int .i64 1, .int .i64 0, .int .i64 0, .int .i64 0, .int .i64 (1 + n % 3), .int .i64 0, .slice none 0 0, .string ⟨#[]⟩]]) hrow (by simp) (by omega) (by simpa using hcap)
  · intro i c x hc hx
    cases i with
    | zero =>
      simp only [List.getElem?_cons_zero, Option.some.injEq, ruleN] at hc hx
      subst hc hx
      exact ⟨_, rfl, Ints.nil _, by simp⟩
    | succ i => simp at hc
def Ed.cells (e : Ed) : List Value := [.int .i64 e.kind, .int .i64 e.day, .int .i64 e.device, .int .i64 e.seq, .int .i64 e.mv.day, .bool e.mv.drop, .int .i64 e.mv.toDay, .int .i64 e.mv.minute, .int .i64 e.mv.length, .int .i64 e.minute, .int .i64 e.length, .slice e.ra e.rn e.rc, .string e.zone]
theorem EdV.form {R : RO} {cs : List Value} {d : De} (h : EdV R cs d) : ∃ a n c, cs = (d.ed a n c).cells ∧ RuleV R (.slice a n c) d.rule := by
  obtain ⟨a, n, c, e, h⟩ := h
  refine ⟨a, n, c, ?_, h⟩
  simp only [Ed.val, Value.agg.injEq] at e
  have := congrArg Array.toList e
  simpa [Ed.cells] using this
/-- A list of edits. -/
def EdsV (R : RO) (v : Value) (ds : List De) : Prop := ∃ cs : List (List Value), SlK R v 13 cs ∧ cs.length = ds.length ∧ (∀ (i : Nat) (c : List Value) (d : De), cs[i]? = some c → ds[i]? = some d → EdV R c d) ∧ ds.length ≤ 1000000000
theorem EdsV.mono {R R' : RO} {v : Value} {ds : List De} (h : EdsV R v ds) (hle : RO.le R R') : EdsV R' v ds := by
  obtain ⟨cs, h1, h2, h3, h4⟩ := h
  exact ⟨cs, h1.mono hle, h2, fun i c x hi hx => (h3 i c x hi hx).mono hle, h4⟩
/-- The element i of a list of edits. -/
theorem EdsV.form {R : RO} {v : Value} {ds : List De} (h : EdsV R v ds) : ∃ a cap, v = .slice a ds.length cap ∧ ds.length ≤ cap ∧ ∀ i (hi : i < ds.length), ∃ ad ra rn rc, a = some ad ∧ (∀ j u, ((ds[i].ed ra rn rc).cells)[j]? = some u → R ((ad.add (i * 13)).add j) u) ∧ RuleV R (.slice ra rn rc) (ds[i]).rule := by
  obtain ⟨cs, h1, h2, h3, h4⟩ := h
  obtain ⟨a, cap, rfl, hc, hf⟩ := SlK.form h1
  refine ⟨a, cap, by rw [h2], by omega, fun i hi => ?_⟩
  obtain ⟨_, ad, ha, hR⟩ := hf i (by omega)
  obtain ⟨ra, rn, rc, e, hr⟩ := (h3 i _ _ (List.getElem?_eq_getElem (by omega)) (List.getElem?_eq_getElem hi)).form
  rw [e] at hR
  exact ⟨ad, ra, rn, rc, ha, hR, hr⟩
/-- A series, with its slices as they lie. -/
structure Se where
  rule : Value
  minute : Int
  length : Int
  zone : ByteArray
  gap : Int
  fold : Int
  moves : Value
def Se.cells (s : Se) : List Value := [s.rule, .int .i64 s.minute, .int .i64 s.length, .string s.zone, .int .i64 s.gap, .int .i64 s.fold, s.moves]
def endE (ds : List De) : Int := ds.foldl (fun e d => if d.kind = 5 then d.day else e) 1099511627777
theorem eBegin (s : Se) (ds : List De) (v : Value) (R : RO) (hr : s.rule.oneCell' = true) (hm : s.moves.oneCell' = true) (h : EdsV R v ds) : CallsR Try.prog 35 [.agg s.cells.toArray, v] R fun _ u => u = .agg (s.cells ++ [v, .int .i64 (endE ds)]).toArray := by
  have hdl : ds.length ≤ 1000000000 := by obtain ⟨_, _, _, _, h⟩ := h; exact h
  obtain ⟨a, cap, rfl, hc, hf⟩ := h.form
  simp only [Se.cells]
  refine callsT mix Try.func35 comp35 (by simp [Try.ntmps35]) ?_; simp only [go_sem, ↓reduceIte, Nat.reduceEqDiff, Nat.reduceAdd, Nat.reduceMul, Nat.reduceLeDiff, Nat.reduceLT, Nat.reduceBNe, reduceCtorEq, vc35, rs35]
  refine ⟨⟨hr, hm⟩, ?_⟩
  refine vcLoop Nat (fun i => [(13, .val (.int .i64 i)), (12, .val (.int .i64 ds.length)), (11, .val (.slice a ds.length cap)), (5, .loc 2 0), (4, .loc 1 0)])
    (fun i => [.dead, .box [.val (.slice none 0 0), .val (.int .i64 0), .val (.int .i64 0), .val (.string ⟨#[]⟩), .val (.int .i64 0), .val (.int .i64 0), .val (.slice none 0 0), .val (.slice none 0 0), .val (.int .i64 0)],
      .box [.val s.rule, .val (.int .i64 s.minute), .val (.int .i64 s.length), .val (.string s.zone), .val (.int .i64 s.gap), .val (.int .i64 s.fold), .val s.moves, .val (.slice a ds.length cap), .val (.int .i64 (endE (ds.take i)))]]) (fun i _ => i ≤ ds.length) (fun i => ds.length - i) 0 ?_ ?_ ?_ ?_
  · (try simp only [go_sem, ↓reduceIte, Nat.reduceEqDiff, Nat.reduceAdd, Nat.reduceMul, Nat.reduceLeDiff, Nat.reduceLT, Nat.reduceBNe, reduceCtorEq]) <;> (repeat' (first | rfl | trivial | constructor | (intro h; exact absurd rfl h)))
  · try simp only [go_sem, ↓reduceIte, Nat.reduceEqDiff, Nat.reduceAdd, Nat.reduceMul, Nat.reduceLeDiff, Nat.reduceLT, Nat.reduceBNe, reduceCtorEq]
  · exact Nat.zero_le _
  rintro i env R1 hle hE hi
  (simp only [go_sem] at hE; obtain ⟨e13, e12, e11, e5, e4⟩ := hE; simp only [go_sem, ↓reduceIte, Nat.reduceEqDiff, Nat.reduceAdd, Nat.reduceMul, Nat.reduceLeDiff, Nat.reduceLT, Nat.reduceBNe, reduceCtorEq, e13, e12, e11, e5, e4]; dsimp only at *)
  refine ⟨fun hlt => ⟨hlt, ?_⟩, fun hge => ?_⟩
  · have hlt' : i < ds.length := by omega
    obtain ⟨ad, ra, rn, rc, had, hR, _⟩ := hf i hlt'
    obtain ⟨d, hd⟩ : ∃ d, d = ds[i] := ⟨_, rfl⟩
    rw [← hd] at hR
    have htk : endE (ds.take (i + 1)) = if d.kind = 5 then d.day else endE (ds.take i) := by
      rw [List.take_succ_eq_append_getElem hlt', endE, List.foldl_append, ← hd]; rfl
    refine vat ad had ?_
    try simp only [go_sem, ↓reduceIte, Nat.reduceEqDiff, Nat.reduceAdd, Nat.reduceMul, Nat.reduceLeDiff, Nat.reduceLT, Nat.reduceBNe, reduceCtorEq]
    refine vloadn (d.ed ra rn rc).cells rfl (fun j u hj => hle _ _ (hR j u hj)) ?_
    simp only [go_sem, ↓reduceIte, Nat.reduceEqDiff, Nat.reduceAdd, Nat.reduceMul, Nat.reduceLeDiff, Nat.reduceLT, Nat.reduceBNe, reduceCtorEq, Ed.cells, De.ed, e13, e12, e11, e5, e4]
    refine ⟨fun hk => ⟨_, W.in64 (by omega), i + 1, by omega, ⟨rfl, by rw [htk, if_pos hk]⟩, by omega⟩, fun hk => ⟨_, W.in64 (by omega), i + 1, by omega, ⟨rfl, by rw [htk, if_neg hk]⟩, by omega⟩⟩
  · obtain rfl : i = ds.length := by omega
    rw [List.take_length]
    exact ⟨⟨hr, hm⟩, rfl⟩
end Go.Proofs.Ytpnhiknfcpkfbaa
namespace Go.Proofs.Ytpnhiknfcpkfbaa
set_option linter.unusedSimpArgs false
set_option linter.unusedVariables false
open Go.Proofs.Ytpnhiknfcpkfbaa.Vc
/-- What is in force on a day. -/
structure On where
  rule : List Nd
  minute : Int
  length : Int
  zone : ByteArray
  deriving DecidableEq
def stepOn (day : Int) (o : On) (d : De) : On :=
  if day < d.day then o else if d.kind = 2 then ⟨o.rule, d.minute, d.length, o.zone⟩ else if d.kind = 3 then ⟨d.rule, o.minute, o.length, o.zone⟩ else if d.kind = 4 then ⟨o.rule, o.minute, o.length, d.zone⟩ else o
def onE (day : Int) (o : On) (ds : List De) : On := ds.foldl (stepOn day) o
theorem RuleV.form {R : RO} {v : Value} {xs : List Nd} (h : RuleV R v xs) : ∃ a n c, v = .slice a n c := by
  obtain ⟨_, ⟨_, _, rfl, _⟩, _⟩ := h; exact ⟨_, _, _, rfl⟩
theorem RuleV.one {R : RO} {v : Value} {xs : List Nd} (h : RuleV R v xs) : v.oneCell' = true := by
  obtain ⟨_, ⟨_, _, rfl, _⟩, _⟩ := h; rfl
theorem eOn (s : Se) (rl : List Nd) (ds : List De) (v : Value) (e day : Int) (R : RO) (hr : RuleV R s.rule rl) (h : EdsV R v ds) : CallsR Try.prog 40 [.agg (s.cells ++ [v, .int .i64 e]).toArray, .int .i64 day] R fun R' u =>
    ∃ rv, u = .agg (Se.cells ⟨rv, (onE day ⟨rl, s.minute, s.length, s.zone⟩ ds).minute, (onE day ⟨rl, s.minute, s.length, s.zone⟩ ds).length, (onE day ⟨rl, s.minute, s.length, s.zone⟩ ds).zone, s.gap, s.fold, .slice none 0 0⟩).toArray ∧ RuleV R' rv (onE day ⟨rl, s.minute, s.length, s.zone⟩ ds).rule := by
  have hdl : ds.length ≤ 1000000000 := by obtain ⟨_, _, _, _, h⟩ := h; exact h
  obtain ⟨a, cap, rfl, hc, hf⟩ := h.form
  obtain ⟨sr, sm, sl, sz, sg, sf, smv⟩ := s
  obtain ⟨ra0, rn0, rc0, e0⟩ := hr.form
  dsimp only at e0 hr
  subst e0
  simp only [Se.cells, List.cons_append, List.nil_append] at *
  refine callsT mix Try.func40 comp40 (by simp [Try.ntmps40]) ?_; simp only [go_sem, ↓reduceIte, Nat.reduceEqDiff, Nat.reduceAdd, Nat.reduceMul, Nat.reduceLeDiff, Nat.reduceLT, Nat.reduceBNe, reduceCtorEq, vc40, rs40]
  refine vcLoop (Nat × Option Addr × Nat × Nat) (fun p => [(30, .val (.int .i64 p.1)), (29, .val (.int .i64 ds.length)), (28, .val (.slice a ds.length cap)), (1, .val (.int .i64 day)), (5, .loc 2 0), (4, .loc 1 0)])
    (fun p => [.dead, .box [.val (.slice none 0 0), .val (.int .i64 0), .val (.int .i64 0), .val (.string ⟨#[]⟩), .val (.int .i64 0), .val (.int .i64 0), .val (.slice none 0 0)],
      .box [.val (.slice p.2.1 p.2.2.1 p.2.2.2), .val (.int .i64 (onE day ⟨rl, sm, sl, sz⟩ (ds.take p.1)).minute), .val (.int .i64 (onE day ⟨rl, sm, sl, sz⟩ (ds.take p.1)).length), .val (.string (onE day ⟨rl, sm, sl, sz⟩ (ds.take p.1)).zone), .val (.int .i64 sg), .val (.int .i64 sf), .val (.slice none 0 0)]])
    (fun p R => p.1 ≤ ds.length ∧ RuleV R (.slice p.2.1 p.2.2.1 p.2.2.2) (onE day ⟨rl, sm, sl, sz⟩ (ds.take p.1)).rule) (fun p => ds.length - p.1) (0, ra0, rn0, rc0) ?_ ?_ ?_ ?_
  · (try simp only [go_sem, ↓reduceIte, Nat.reduceEqDiff, Nat.reduceAdd, Nat.reduceMul, Nat.reduceLeDiff, Nat.reduceLT, Nat.reduceBNe, reduceCtorEq]) <;> (repeat' (first | rfl | trivial | constructor | (intro h; exact absurd rfl h)))
  · try simp only [go_sem, ↓reduceIte, Nat.reduceEqDiff, Nat.reduceAdd, Nat.reduceMul, Nat.reduceLeDiff, Nat.reduceLT, Nat.reduceBNe, reduceCtorEq]
  · exact ⟨Nat.zero_le _, hr⟩
  rintro ⟨i, va, vn, vc⟩ env R1 hle hE ⟨hi, hrv⟩
  (simp only [go_sem] at hE; obtain ⟨e30, e29, e28, e1, e5, e4⟩ := hE; simp only [go_sem, ↓reduceIte, Nat.reduceEqDiff, Nat.reduceAdd, Nat.reduceMul, Nat.reduceLeDiff, Nat.reduceLT, Nat.reduceBNe, reduceCtorEq, e30, e29, e28, e1, e5, e4]; dsimp only at *)
  refine ⟨fun hlt => ⟨hlt, ?_⟩, fun hge => ?_⟩
  · have hlt' : i < ds.length := by omega
    obtain ⟨ad, ra, rn, rc, had, hR, hdr⟩ := hf i hlt'
    obtain ⟨d, hd⟩ : ∃ d, d = ds[i] := ⟨_, rfl⟩
    rw [← hd] at hR hdr
    obtain ⟨o, ho⟩ : ∃ o, o = onE day ⟨rl, sm, sl, sz⟩ (ds.take i) := ⟨_, rfl⟩
    have htk : onE day ⟨rl, sm, sl, sz⟩ (ds.take (i + 1)) = stepOn day o d := by
      rw [List.take_succ_eq_append_getElem hlt', onE, List.foldl_append, ← hd, ho]; rfl
    refine vat ad had ?_
    try simp only [go_sem, ↓reduceIte, Nat.reduceEqDiff, Nat.reduceAdd, Nat.reduceMul, Nat.reduceLeDiff, Nat.reduceLT, Nat.reduceBNe, reduceCtorEq]
    refine vloadn (d.ed ra rn rc).cells rfl (fun j u hj => hle _ _ (hR j u hj)) ?_
    rw [← ho] at hrv ⊢
    simp only [go_sem, ↓reduceIte, Nat.reduceEqDiff, Nat.reduceAdd, Nat.reduceMul, Nat.reduceLeDiff, Nat.reduceLT, Nat.reduceBNe, reduceCtorEq, Ed.cells, De.ed, e30, e29, e28, e1, e5, e4]
    refine ⟨fun h0 => ?_, fun h0 => ⟨fun h2 => ?_, fun h2 => ⟨fun h3 => ?_, fun h3 => ⟨fun h4 => ?_, fun h4 => ?_⟩⟩⟩⟩
    · have hs : stepOn day o d = o := by simp [stepOn, h0]
      refine ⟨_, W.in64 (by omega), (i + 1, va, vn, vc), by dsimp only; omega, ?_, by dsimp only; omega, ?_⟩
      · dsimp only; rw [htk, hs]; exact ⟨rfl, rfl, rfl, rfl, rfl⟩
      · dsimp only; rw [htk, hs]; exact hrv
    · have hs : stepOn day o d = ⟨o.rule, d.minute, d.length, o.zone⟩ := by simp [stepOn, h0, h2]
      refine ⟨_, W.in64 (by omega), (i + 1, va, vn, vc), by dsimp only; omega, ?_, by dsimp only; omega, ?_⟩
      · dsimp only; rw [htk, hs]; exact ⟨rfl, rfl, rfl, rfl, rfl⟩
      · dsimp only; rw [htk, hs]; exact hrv
    · have hs : stepOn day o d = ⟨d.rule, o.minute, o.length, o.zone⟩ := by simp [stepOn, h0, h2, h3]
      refine ⟨_, W.in64 (by omega), (i + 1, ra, rn, rc), by dsimp only; omega, ?_, by dsimp only; omega, ?_⟩
      · dsimp only; rw [htk, hs]; exact ⟨rfl, rfl, rfl, rfl, rfl⟩
      · dsimp only; rw [htk, hs]; exact hdr.mono hle
    · have hs : stepOn day o d = ⟨o.rule, o.minute, o.length, d.zone⟩ := by simp [stepOn, h0, h2, h3, h4]
      refine ⟨_, W.in64 (by omega), (i + 1, va, vn, vc), by dsimp only; omega, ?_, by dsimp only; omega, ?_⟩
      · dsimp only; rw [htk, hs]; exact ⟨rfl, rfl, rfl, rfl, rfl⟩
      · dsimp only; rw [htk, hs]; exact hrv
    · have hs : stepOn day o d = o := by simp [stepOn, h0, h2, h3, h4]
      refine ⟨_, W.in64 (by omega), (i + 1, va, vn, vc), by dsimp only; omega, ?_, by dsimp only; omega, ?_⟩
      · dsimp only; rw [htk, hs]; exact ⟨rfl, rfl, rfl, rfl, rfl⟩
      · dsimp only; rw [htk, hs]; exact hrv
  · obtain rfl : i = ds.length := by omega
    rw [List.take_length] at hrv ⊢
    generalize onE day ⟨rl, sm, sl, sz⟩ ds = o at *
    refine vcall (eCopied o.rule _ R1 hrv) ?_
    intro R2 u hle2 hu
    obtain ⟨ua, un, uc, rfl⟩ := hu.form
    try simp only [go_sem, ↓reduceIte, Nat.reduceEqDiff, Nat.reduceAdd, Nat.reduceMul, Nat.reduceLeDiff, Nat.reduceLT, Nat.reduceBNe, reduceCtorEq, Int.reduceLE, Int.reduceLT, Int.reduceToNat, Int.cast_ofNat_Int, Int.reduceEq, Int.reduceNe, e30, e29, e28, e1, e5, e4]
    exact ⟨_, rfl, hu⟩
end Go.Proofs.Ytpnhiknfcpkfbaa
namespace Go.Proofs.Ytpnhiknfcpkfbaa
set_option linter.unusedSimpArgs false
set_option linter.unusedVariables false
open Go.Proofs.Ytpnhiknfcpkfbaa.Vc
/-- The first that p holds of; else -1. -/
def idxE (p : De → Bool) : Nat → List De → Int
  | _, [] => -1
  | i, d :: r => if p d then i else idxE p (i + 1) r
theorem eOverF (a : Ed) (b : De) (cb : List Value) (ad : Addr) (R : RO) (ha : ∀ j u, a.cells[j]? = some u → R (ad.add j) u) (hb : EdV R cb b) : CallsR Try.prog 33 [.agg cb.toArray, .pointer (some ad)] R fun _ r => r = .bool (overE a (b.ed none 0 0)) := by
  obtain ⟨ra, rn, rc, rfl, _⟩ := hb.form
  have hO := eOverrules a (b.ed ra rn rc) R
  have e : overE a (b.ed none 0 0) = overE a (b.ed ra rn rc) := rfl
  rw [e]
  simp only [Ed.val, Ed.cells] at *
  refine callsT mix Try.func33 comp33 (by simp [Try.ntmps33]) ?_; simp only [go_sem, ↓reduceIte, Nat.reduceEqDiff, Nat.reduceAdd, Nat.reduceMul, Nat.reduceLeDiff, Nat.reduceLT, Nat.reduceBNe, reduceCtorEq, vc33, rs33]
  refine vloadn _ rfl ha ?_
  try simp only [go_sem, ↓reduceIte, Nat.reduceEqDiff, Nat.reduceAdd, Nat.reduceMul, Nat.reduceLeDiff, Nat.reduceLT, Nat.reduceBNe, reduceCtorEq]
  refine vcall hO ?_
  rintro R1 v h1 rfl
  try simp only [go_sem, ↓reduceIte, Nat.reduceEqDiff, Nat.reduceAdd, Nat.reduceMul, Nat.reduceLeDiff, Nat.reduceLT, Nat.reduceBNe, reduceCtorEq]
theorem eIndexFunc (g : FuncId) (caps : List Value) (hb : hasBody Try.prog g = true) (p : De → Bool) (ds : List De) (v : Value) (R : RO) (h : EdsV R v ds)
    (hcl : ∀ d cs R', RO.le R R' → EdV R' cs d → CallsR Try.prog g (.agg cs.toArray :: caps) R' fun _ r => r = .bool (p d)) : CallsR Try.prog 32 [v, .func (.func g) #[] caps.toArray] R fun _ r => r = .int .i64 (idxE p 0 ds) := by
  have hdl : ds.length ≤ 1000000000 := by obtain ⟨_, _, _, _, h⟩ := h; exact h
  obtain ⟨a, cap, rfl, hc, hf⟩ := h.form
  refine callsT mix Try.func32 comp32 (by simp [Try.ntmps32]) ?_; simp only [go_sem, ↓reduceIte, Nat.reduceEqDiff, Nat.reduceAdd, Nat.reduceMul, Nat.reduceLeDiff, Nat.reduceLT, Nat.reduceBNe, reduceCtorEq, vc32, rs32]
  refine vcLoop Nat (fun i => [(8, .val (.int .i64 i)), (7, .val (.int .i64 ds.length)), (0, .val (.slice a ds.length cap)), (1, .val (.func (.func g) #[] caps.toArray))]) (fun _ => []) (fun i _ => i ≤ ds.length ∧ idxE p 0 ds = idxE p i (ds.drop i)) (fun i => ds.length - i) 0 ?_ rfl ?_ ?_
  · (try simp only [go_sem, ↓reduceIte, Nat.reduceEqDiff, Nat.reduceAdd, Nat.reduceMul, Nat.reduceLeDiff, Nat.reduceLT, Nat.reduceBNe, reduceCtorEq]) <;> (repeat' (first | rfl | trivial | constructor | (intro h; exact absurd rfl h)))
  · exact ⟨Nat.zero_le _, rfl⟩
  rintro i env R1 hle hE ⟨hi, hp⟩
  (simp only [go_sem] at hE; obtain ⟨e8, e7, e0, e1⟩ := hE; simp only [go_sem, ↓reduceIte, Nat.reduceEqDiff, Nat.reduceAdd, Nat.reduceMul, Nat.reduceLeDiff, Nat.reduceLT, Nat.reduceBNe, reduceCtorEq, e8, e7, e0, e1]; dsimp only at *)
  refine ⟨fun hlt => ⟨hlt, ?_⟩, fun hge => ?_⟩
  · have hlt' : i < ds.length := by omega
    obtain ⟨ad, ra, rn, rc, had, hR, hdr⟩ := hf i hlt'
    obtain ⟨d, hd⟩ : ∃ d, d = ds[i] := ⟨_, rfl⟩
    rw [List.drop_eq_getElem_cons hlt'] at hp
    rw [← hd] at hR hdr hp
    have hE : EdV R1 (d.ed ra rn rc).cells d := ⟨ra, rn, rc, rfl, hdr.mono hle⟩
    have hcd := hcl d _ R1 hle hE
    refine vat ad had ?_
    try simp only [go_sem, ↓reduceIte, Nat.reduceEqDiff, Nat.reduceAdd, Nat.reduceMul, Nat.reduceLeDiff, Nat.reduceLT, Nat.reduceBNe, reduceCtorEq]
    refine vloadn (d.ed ra rn rc).cells rfl (fun j u hj => hle _ _ (hR j u hj)) ?_
    simp only [go_sem, ↓reduceIte, Nat.reduceEqDiff, Nat.reduceAdd, Nat.reduceMul, Nat.reduceLeDiff, Nat.reduceLT, Nat.reduceBNe, reduceCtorEq, e8, e7, e0, e1]
    refine ⟨hb, vcall hcd ?_⟩
    rintro R2 w h2 rfl
    simp only [go_sem, ↓reduceIte, Nat.reduceEqDiff, Nat.reduceAdd, Nat.reduceMul, Nat.reduceLeDiff, Nat.reduceLT, Nat.reduceBNe, reduceCtorEq, e8, e7, e0, e1]
    refine ⟨fun ht => ?_, fun hn => ⟨_, W.in64 (by omega), i + 1, by omega, by constructor, by omega, ?_⟩⟩
    · rw [hp, idxE, if_pos ht]
    · rw [hp, idxE, if_neg (by simp [hn])]
  · obtain rfl : i = ds.length := by omega
    rw [hp, List.drop_length]; rfl
end Go.Proofs.Ytpnhiknfcpkfbaa
