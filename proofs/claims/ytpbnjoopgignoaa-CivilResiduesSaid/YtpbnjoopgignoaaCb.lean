/- Contracts of package civil's functions: leap years, the lengths of months and years. -/
import Derived.Test.YtpbnjoopgignoaaLp
namespace Go.Proofs.Ytpbnjoopgignoaa
set_option linter.unusedSimpArgs false
set_option linter.unusedVariables false
open Go.RowKit Go.Proofs.Ytpbnjoopgignoaa.Vc

theorem leapOf_snoc (rs : List Rule) (r : Rule) (y : Int) : leapOf (rs ++ [r]) y = if y % r.1 = r.2.1 then r.2.2 else leapOf rs y := by
  simp [leapOf, List.foldl_append]
theorem take_snoc {α : Type} (l : List α) (k : Nat) (hk : k < l.length) : l.take (k + 1) = l.take k ++ [l[k]] := by
  rw [List.take_add_one, List.getElem?_eq_getElem hk]; rfl
theorem leapOf_none {rs : List Rule} {y : Int} (h : ∀ r ∈ rs, ¬ y % r.1 = r.2.1) : leapOf rs y = false := by
  unfold leapOf
  generalize hacc : false = acc
  rw [← hacc]
  clear hacc
  suffices ∀ acc : Bool, rs.foldl (fun acc r => if y % r.1 = r.2.1 then r.2.2 else acc) acc = acc from this false
  induction rs with
  | nil => intro acc; rfl
  | cons r rs ih =>
    intro acc
    rw [List.foldl_cons, if_neg (h r (by simp))]
    exact ih (fun r hr => h r (by simp [hr])) acc
theorem leapOf_take {rs : List Rule} {y : Int} : ∀ k : Nat, k ≤ rs.length → (∀ j, j < k → ∀ r, rs[rs.length - 1 - j]? = some r → ¬ y % r.1 = r.2.1) → leapOf rs y = leapOf (rs.take (rs.length - k)) y
  | 0, _, _ => by simp
  | k + 1, hk, h => by
    rw [leapOf_take k (by omega) (fun j hj => h j (by omega))]
    have h1 : rs.length - 1 - k < rs.length := by omega
    have h2 := h k (by omega) rs[rs.length - 1 - k] (List.getElem?_eq_getElem h1)
    rw [show rs.length - k = rs.length - 1 - k + 1 by omega, take_snoc _ _ h1, leapOf_snoc, if_neg h2]
    congr 2
    omega
theorem hit_ok {y : Int} {r : Rule} (h : okRule r) : hit y r ↔ y % r.1 = r.2.1 := by
  unfold hit
  rw [modv_eq h.1 (by have := h.bd; unfold I64; omega)]

theorem cLeap (c : Cal) (sm sr st : Value) (R : RO) (h : RulesIn R sr c.rules) (hok : ∀ r ∈ c.rules, okRule r) (hn : c.rules.length ≤ 1000) (e l0 : Int) (y : Int) (hy : I64 y) :
    CallsR Try.prog 52 [.agg #[.int .i64 e, sm, .int .i64 l0, sr, st], .int .i64 y] R fun _ v => v = .bool (leapOf c.rules y) := by
  intro w hR
  obtain ⟨a, cap, rfl, hc, hf⟩ := h.form
  obtain ⟨b, off, hb, ha, hcell⟩ : ∃ b off, (c.rules ≠ [] → b < w.heap.size) ∧ (c.rules ≠ [] → a = some ⟨b, off, none⟩) ∧ ∀ j, j < c.rules.length → ∀ i, i < 3 → w.cell? ⟨b, off + j * 3 + i, none⟩ = (rcells (c.rules[j]?.getD (0, 0, false)))[i]? := by
    by_cases hne : c.rules = []
    · exact ⟨0, 0, fun h => absurd hne h, fun h => absurd hne h, fun j hj => by rw [hne] at hj; simp at hj⟩
    · have h0 : 0 < c.rules.length := List.length_pos_iff.2 hne
      obtain ⟨ad, rfl, hR0⟩ := hf 0 h0
      have hc0 := hR _ _ (hR0 0 _ rfl)
      have hsp : ad.spot = none := by
        have e : (ad.add (0 * 3)).add 0 = ad := by simp [Addr.add]
        rw [e] at hc0
        cases hs : ad.spot with
        | none => rfl
        | some x =>
          exfalso
          unfold World.cell? at hc0
          simp only [hs, Option.isSome_some, if_true] at hc0
          split at hc0
          · cases hc0
          · cases hc0
      obtain ⟨b, off, sp⟩ := ad
      simp only at hsp
      subst hsp
      refine ⟨b, off, fun _ => ?_, fun _ => rfl, fun j hj i hi => ?_⟩
      · have := World.block_lt_of_cell? w _ hc0
        simpa [Addr.add_lit] using this
      · obtain ⟨ad', e', hR'⟩ := hf j hj
        cases e'
        have hlen : i < (rcells c.rules[j]).length := by simpa [rcells] using hi
        have hg : (rcells c.rules[j])[i]? = some (rcells c.rules[j])[i] := List.getElem?_eq_getElem hlen
        have h1 := hR _ _ (hR' i _ hg)
        rw [Addr.add_lit, Addr.add_lit] at h1
        rw [List.getElem?_eq_getElem hj, Option.getD_some, hg]
        exact h1
  have hl := leap_in 5 (by omega) y hy e l0 sm st b off cap a c.rules (fun r hr => by have := hok r hr; have := this.bd; simp only [okRule] at *; unfold I64; omega) (by omega) w hb ha hcell
  refine Calls.mono (callsIn_wide.1 hl) ?_
  rintro e w' ⟨h1, hB⟩
  refine ⟨.bool (leapOf c.rules y), R, ?_, RO.le_refl R, fun a v ha => ⟨by rw [hB.cell (World.block_lt_of_cell? w a (hR a v ha))]; exact hR a v ha, .inl ha⟩, hB, rfl⟩
  rcases h1 with ⟨rfl, h1⟩ | ⟨k, hk, rfl, h1, h2⟩
  · rw [leapOf_none fun r hr => by rw [← hit_ok (hok r hr)]; exact h1 r hr]
  · have hlt : c.rules.length - 1 - k < c.rules.length := by omega
    have e1 := leapOf_take (rs := c.rules) (y := y) k (by omega) (fun j hj r hr => by
      have := h2 j hj
      simp only [fromEnd] at this
      rw [hr, Option.getD_some, hit_ok (hok r (List.mem_of_getElem? hr))] at this
      exact this)
    rw [e1, show c.rules.length - k = c.rules.length - 1 - k + 1 by omega, take_snoc _ _ hlt, leapOf_snoc]
    simp only [fromEnd, List.getElem?_eq_getElem hlt, Option.getD_some] at h1 ⊢
    rw [hit_ok (hok _ (List.getElem_mem hlt))] at h1
    rw [if_pos h1]
/-- An almanac's value: the calendar and the first days of the years of a cycle. -/
abbrev av (c : Cal) (sm sr st : Value) : Value := .agg #[.int .i64 c.epoch, sm, .int .i64 c.leap, sr, st]
theorem valid_small {c : Cal} (h : c.valid) : (∀ r ∈ c.rules, okRule r) ∧ c.rules.length ≤ 1000 := ⟨fun r hr => (h.per.2.2 r hr).1, by have := h.2.2.2.1; omega⟩
theorem cMonth (c : Cal) (hv : c.valid) (sm sr st : Value) (R : RO) (h : CalIn R c sm sr) (y : Int) (hy : I64 y) (m : Nat) (hm : m < c.months.length) :
    CallsR Try.prog 47 [av c sm sr st, .int .i64 y, .int .i64 (m + 1 : Int)] R fun _ v => v = .int .i64 (c.mlen y m) := by
  obtain ⟨am, cm, rfl, hcm, hfm⟩ := h.m.form
  obtain ⟨ad, had, hR⟩ := hfm m hm
  have hin := hv.2.2.2.2.2.1 _ (List.getElem_mem hm)
  have hml := hv.2.1.2
  have hl : c.mlen y m = c.months[m] + if (m : Int) = c.leap ∧ leapOf c.rules y = true then 1 else 0 := by
    unfold Cal.mlen
    rw [List.getD_eq_getElem?_getD, List.getElem?_eq_getElem hm, Option.getD_some]
  refine callsT mix Try.func47 comp47 (by simp [Try.ntmps47]) ?_; simp only [go_sem, ↓reduceIte, Nat.reduceEqDiff, Nat.reduceAdd, Nat.reduceMul, Nat.reduceLeDiff, Nat.reduceLT, Nat.reduceBNe, reduceCtorEq, vc47, rs47]
  refine ⟨_, W.in64 (by omega), ?_⟩
  rw [show (m : Int) + 1 - 1 = m by omega]
  try simp only [go_sem, ↓reduceIte, Nat.reduceEqDiff, Nat.reduceAdd, Nat.reduceMul, Nat.reduceLeDiff, Nat.reduceLT, Nat.reduceBNe, reduceCtorEq]
  refine ⟨by omega, vat ad had ?_⟩
  try simp only [go_sem, ↓reduceIte, Nat.reduceEqDiff, Nat.reduceAdd, Nat.reduceMul, Nat.reduceLeDiff, Nat.reduceLT, Nat.reduceBNe, reduceCtorEq]
  refine vload _ hR ?_
  try simp only [go_sem, ↓reduceIte, Nat.reduceEqDiff, Nat.reduceAdd, Nat.reduceMul, Nat.reduceLeDiff, Nat.reduceLT, Nat.reduceBNe, reduceCtorEq]
  refine ⟨_, W.in64 (by omega), ?_⟩
  rw [show (m : Int) + 1 - 1 = m by omega]
  try simp only [go_sem, ↓reduceIte, Nat.reduceEqDiff, Nat.reduceAdd, Nat.reduceMul, Nat.reduceLeDiff, Nat.reduceLT, Nat.reduceBNe, reduceCtorEq]
  refine ⟨fun h1 => vcall (cLeap c _ _ _ R h.r (valid_small hv).1 (valid_small hv).2 _ _ y hy) ?_, fun h1 => ?_⟩
  · rintro R1 v hle rfl
    try simp only [go_sem, ↓reduceIte, Nat.reduceEqDiff, Nat.reduceAdd, Nat.reduceMul, Nat.reduceLeDiff, Nat.reduceLT, Nat.reduceBNe, reduceCtorEq]
    refine ⟨fun h2 => ⟨_, W.in64 (by omega), ?_⟩, fun h2 => ?_⟩
    · rw [hl, if_pos ⟨h1, h2⟩]
    · rw [hl, if_neg (fun h3 => by rw [h3.2] at h2; cases h2)]; simp
  · rw [hl, if_neg (fun h3 => h1 h3.1)]; simp
theorem cYear (c : Cal) (hv : c.valid) (sm sr st : Value) (R : RO) (h : CalIn R c sm sr) (y : Int) (hy : I64 y) :
    CallsR Try.prog 53 [av c sm sr st, .int .i64 y] R fun _ v => v = .int .i64 (c.ylen y) := by
  have hml := hv.2.1.2
  obtain ⟨am, cm, rfl, hcm, hfm⟩ := h.m.form
  refine callsT mix Try.func53 comp53 (by simp [Try.ntmps53]) ?_; simp only [go_sem, ↓reduceIte, Nat.reduceEqDiff, Nat.reduceAdd, Nat.reduceMul, Nat.reduceLeDiff, Nat.reduceLT, Nat.reduceBNe, reduceCtorEq, vc53, rs53]
  refine vcLoop Nat (fun k => [(10, .val (.int .i64 c.months.length)), (11, .val (.int .i64 k)), (5, .val (.int .i64 (sumTo (c.mlen y) k))), (2, .loc 0 0), (1, .val (.int .i64 y))])
    (fun _ => [.box [.val (.int .i64 c.epoch), .val (.slice am c.months.length cm), .val (.int .i64 c.leap), .val sr, .val st]]) (fun k _ => k ≤ c.months.length) (fun k => c.months.length - k) 0 ?_ rfl ?_ ?_
  · (try simp only [go_sem, ↓reduceIte, Nat.reduceEqDiff, Nat.reduceAdd, Nat.reduceMul, Nat.reduceLeDiff, Nat.reduceLT, Nat.reduceBNe, reduceCtorEq]) <;> (repeat' (first | rfl | trivial | constructor | (intro h; exact absurd rfl h)))
  · omega
  · rintro k env R1 hle hE hk
    have hs := sumTo_bd (f := c.mlen y) (a := 1) (b := 41) k (fun i hi => hv.mlen_bd y (by omega))
    (simp only [go_sem] at hE; obtain ⟨e10, e11, e5, e2, e1⟩ := hE; simp only [go_sem, ↓reduceIte, Nat.reduceEqDiff, Nat.reduceAdd, Nat.reduceMul, Nat.reduceLeDiff, Nat.reduceLT, Nat.reduceBNe, reduceCtorEq, e10, e11, e5, e2, e1]; dsimp only at *)
    refine ⟨fun hlt => ⟨_, W.in64 (by omega), ?_⟩, fun hge => ?_⟩
    · refine vcall (cMonth c hv _ _ _ R1 (h.mono hle) y hy k (by omega)) ?_
      rintro R2 v hle2 rfl
      simp only [go_sem, ↓reduceIte, Nat.reduceEqDiff, Nat.reduceAdd, Nat.reduceMul, Nat.reduceLeDiff, Nat.reduceLT, Nat.reduceBNe, reduceCtorEq, e10, e11, e5, e2, e1]
      have hb := hv.mlen_bd y (show k < c.months.length by omega)
      exact ⟨_, W.in64 (by omega), _, W.in64 (by omega), k + 1, by omega, ⟨rfl, rfl⟩, by omega⟩
    · have : k = c.months.length := by omega
      subst this
      rfl
/-- The first days of the years of a cycle, and of the year behind it, from the first year's on. -/
def Cal.starts (c : Cal) : List Int := (List.range (c.per.toNat + 1)).map c.S
theorem cCycle (c : Cal) (hv : c.valid) (sm sr st : Value) (R : RO) (hst : Ints R st c.starts) : CallsR Try.prog 54 [av c sm sr st] R fun _ v => v = .tuple #[.int .i64 c.per, .int .i64 c.days] := by
  obtain ⟨a, cap, rfl, hc, hf⟩ := hst.form
  have hp := hv.per.2.1
  have hl : c.starts.length = c.per.toNat + 1 := by simp [Cal.starts]
  obtain ⟨ad, had, hR⟩ := hf c.per.toNat (by omega)
  refine callsT mix Try.func54 comp54 (by simp [Try.ntmps54]) ?_; simp only [go_sem, ↓reduceIte, Nat.reduceEqDiff, Nat.reduceAdd, Nat.reduceMul, Nat.reduceLeDiff, Nat.reduceLT, Nat.reduceBNe, reduceCtorEq, vc54, rs54]
  refine ⟨_, W.in64 (by omega), ?_⟩
  rw [hl, show ((c.per.toNat + 1 : Nat) : Int) - 1 = c.per by omega]
  refine ⟨by omega, by omega, vat ad had ?_⟩
  try simp only [go_sem, ↓reduceIte, Nat.reduceEqDiff, Nat.reduceAdd, Nat.reduceMul, Nat.reduceLeDiff, Nat.reduceLT, Nat.reduceBNe, reduceCtorEq]
  refine vload _ hR ?_
  try simp only [go_sem, ↓reduceIte, Nat.reduceEqDiff, Nat.reduceAdd, Nat.reduceMul, Nat.reduceLeDiff, Nat.reduceLT, Nat.reduceBNe, reduceCtorEq]
  simp [Cal.starts, Cal.days]
end Go.Proofs.Ytpbnjoopgignoaa
