import Derived.Test.YtpnhiknfcpkfbaaEv
namespace Go.Proofs.Ytpnhiknfcpkfbaa
set_option linter.unusedSimpArgs false
set_option linter.unusedVariables false
open Go.Proofs.Ytpnhiknfcpkfbaa.Vc
def Se.zero : Se := ⟨.slice none 0 0, 0, 0, ⟨#[]⟩, 0, 0, .slice none 0 0⟩
def Se.on (s : Se) (rl : List Nd) : On := ⟨rl, s.minute, s.length, s.zone⟩
/-- What At hands back. -/
def AtV (R : RO) (r : Value) (s : Se) (rl : List Nd) (ds : List De) (day : Int) : Prop := match allD ds with
  | .error k => r = .tuple #[.agg Se.zero.cells.toArray, .bool false, .int .i64 k]
  | .ok o => if betw 0 day 1099511627776 = false then r = .tuple #[.agg Se.zero.cells.toArray, .bool false, .int .i64 1]
    else if endE (forceD o) ≤ day then r = .tuple #[.agg Se.zero.cells.toArray, .bool false, .int .i64 0]
    else ∃ rv, r = .tuple #[.agg (Se.cells ⟨rv, (onE day (s.on rl) (forceD o)).minute, (onE day (s.on rl) (forceD o)).length, (onE day (s.on rl) (forceD o)).zone, s.gap, s.fold, .slice none 0 0⟩).toArray, .bool true, .int .i64 0] ∧ RuleV R rv (onE day (s.on rl) (forceD o)).rule
theorem eAt (s : Se) (rl : List Nd) (ds : List De) (v : Value) (day : Int) (R : RO) (hr : RuleV R s.rule rl) (hm : s.moves.oneCell' = true) (h : EdsV R v ds) : CallsR Try.prog 24 [.agg s.cells.toArray, v, .int .i64 day] R fun R' r => AtV R' r s rl ds day := by
  have hS := eRebase ds v R h
  have hsr := hr.one
  obtain ⟨a0, cap0, rfl, _⟩ := h.form
  obtain ⟨sr, sm, sl, sz, sg, sf, smv⟩ := s
  dsimp only at hr hm hsr
  simp only [Se.cells]
  refine callsT mix Try.func24 comp24 (by simp [Try.ntmps24]) ?_; simp only [go_sem, ↓reduceIte, Nat.reduceEqDiff, Nat.reduceAdd, Nat.reduceMul, Nat.reduceLeDiff, Nat.reduceLT, Nat.reduceBNe, reduceCtorEq, vc24, rs24]
  refine vcall hS ?_
  intro R1 r hle1 hr1
  unfold AtV
  unfold RebV at hr1
  cases hall : allD ds with
  | error k =>
    have hk := allD_error hall
    rw [hall] at hr1
    dsimp only at hr1
    subst hr1
    try simp only [go_sem, ↓reduceIte, Nat.reduceEqDiff, Nat.reduceAdd, Nat.reduceMul, Nat.reduceLeDiff, Nat.reduceLT, Nat.reduceBNe, reduceCtorEq]
    exact ⟨fun h0 => rfl, fun h0 => by omega⟩
  | ok o =>
    rw [hall] at hr1
    dsimp only at hr1
    obtain ⟨u, w, rfl, hu, _⟩ := hr1
    obtain ⟨a, cap, rfl, _⟩ := hu.form
    try simp only [go_sem, ↓reduceIte, Nat.reduceEqDiff, Nat.reduceAdd, Nat.reduceMul, Nat.reduceLeDiff, Nat.reduceLT, Nat.reduceBNe, reduceCtorEq]
    refine vcall (eBetween 0 day 1099511627776 R1) ?_
    rintro R2 v hle2 rfl
    try simp only [go_sem, ↓reduceIte, Nat.reduceEqDiff, Nat.reduceAdd, Nat.reduceMul, Nat.reduceLeDiff, Nat.reduceLT, Nat.reduceBNe, reduceCtorEq]
    refine ⟨fun hb => ?_, fun hb => ?_⟩
    · rw [if_pos hb]
      simp only [Se.zero, Se.cells]
    · refine vcall (eBegin ⟨sr, sm, sl, sz, sg, sf, smv⟩ (forceD o) _ R2 hsr hm (hu.mono hle2)) ?_
      rintro R3 v hle3 rfl
      simp only [go_sem, ↓reduceIte, Nat.reduceEqDiff, Nat.reduceAdd, Nat.reduceMul, Nat.reduceLeDiff, Nat.reduceLT, Nat.reduceBNe, reduceCtorEq, Se.cells]
      refine ⟨⟨hsr, hm⟩, fun hge => ?_, fun hge => ?_⟩
      · rw [if_neg (by simp [hb]), if_pos hge]
        simp only [Se.zero, Se.cells]
      · refine vcall (eOn ⟨sr, sm, sl, sz, sg, sf, smv⟩ rl (forceD o) _ (endE (forceD o)) day R3 (hr.mono (RO.le_trans hle1 (RO.le_trans hle2 hle3))) (hu.mono (RO.le_trans hle2 hle3))) ?_
        rintro R4 v hle4 ⟨rv, rfl, hrv⟩
        simp only [go_sem, ↓reduceIte, Nat.reduceEqDiff, Nat.reduceAdd, Nat.reduceMul, Nat.reduceLeDiff, Nat.reduceLT, Nat.reduceBNe, reduceCtorEq, Se.cells]
        refine ⟨hrv.one, ?_⟩
        rw [if_neg (by simp [hb]), if_neg hge]
        exact ⟨rv, rfl, hrv⟩
end Go.Proofs.Ytpnhiknfcpkfbaa
