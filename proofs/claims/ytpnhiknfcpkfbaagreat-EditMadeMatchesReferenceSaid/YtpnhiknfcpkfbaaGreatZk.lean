import Derived.Test.YtpnhiknfcpkfbaaGreatZc
namespace Go.Proofs.YtpnhiknfcpkfbaaGreat
set_option linter.unusedSimpArgs false
set_option linter.unusedVariables false
open Go.Proofs.YtpnhiknfcpkfbaaGreat.Vc
/-! ### The reference's At -/
/-- What the reference's At returns. -/
def AtRV (R : RO) (r : Value) (s : Se) (rl : List Nd) (o : List De) (x : Int) : Prop :=
  if o.any (goneOn x) = true then r = .tuple #[.agg Se.zero.cells.toArray, .bool false]
  else ∃ rv, r = .tuple #[.agg (Se.cells ⟨rv, (onE x (s.on rl) o).minute, (onE x (s.on rl) o).length, (onE x (s.on rl) o).zone, s.gap, s.fold, .slice none 0 0⟩).toArray, .bool true] ∧ RuleV R rv (onE x (s.on rl) o).rule
theorem rAt (s : Se) (rl : List Nd) (ms : List Mv) (ds o : List De) (v : Value) (x : Int) (R : RO) (hr : RuleV R s.rule rl) (hm : EncV Mv.cells 5 R s.moves ms) (hp : ms.Pairwise fun a b => a.day ≠ b.day) (h : EdsV R v ds) (hc : Cons ds) (hl : ds.length ≤ 4096) (ho : allD ds = .ok o) (hk : ∀ d ∈ o, 1 ≤ d.kind ∧ d.kind ≤ 5) :
    CallsR Tryz.prog 15 [.agg s.cells.toArray, v, .int .i64 x] R fun R' r => AtRV R' r s rl o x := by
  have hS := rAll ds o v R h hc hl ho
  obtain ⟨a0, cap0, rfl, _⟩ := h.form
  have hsr := hr.one
  have hO := rOn s rl ms o
  obtain ⟨sr, sm, sl, sz, sg, sf, smv⟩ := s
  dsimp only at hr hm hsr hO
  obtain ⟨ra0, rn0, rc0, rfl⟩ := hr.form
  obtain ⟨ma, mcap, rfl, hmc, hmf⟩ := hm.form
  simp only [Se.cells] at hO ⊢
  refine callsT mix Tryz.func15 comp15 (by simp [Tryz.ntmps15]) ?_; simp only [go_sem, ↓reduceIte, Nat.reduceEqDiff, Nat.reduceAdd, Nat.reduceMul, Nat.reduceLeDiff, Nat.reduceLT, Nat.reduceBNe, reduceCtorEq, vc15, rs15]
  refine vcall hS ?_
  rintro R1 r hle1 ⟨u, rfl, hu⟩
  try simp only [go_sem, ↓reduceIte, Nat.reduceEqDiff, Nat.reduceAdd, Nat.reduceMul, Nat.reduceLeDiff, Nat.reduceLT, Nat.reduceBNe, reduceCtorEq]
  refine vcall (hO u x R1 (hr.mono hle1) (hm.mono hle1) hp hu hk) ?_
  intro R2 r hle2 hr2
  unfold OnV at hr2
  by_cases hg : o.any (goneOn x) = true
  · rw [if_pos hg] at hr2
    subst hr2
    simp only [Se.zero, Se.cells]
    try simp only [go_sem, ↓reduceIte, Nat.reduceEqDiff, Nat.reduceAdd, Nat.reduceMul, Nat.reduceLeDiff, Nat.reduceLT, Nat.reduceBNe, reduceCtorEq]
    unfold AtRV
    rw [if_pos hg]
    rfl
  · rw [if_neg hg] at hr2
    obtain ⟨rv, mv, rfl, hrv, hmv⟩ := hr2
    have h1 := hrv.one
    obtain ⟨ma2, mcap2, rfl, _⟩ := hmv.form
    simp only [Se.cells]
    try simp only [go_sem, ↓reduceIte, Nat.reduceEqDiff, Nat.reduceAdd, Nat.reduceMul, Nat.reduceLeDiff, Nat.reduceLT, Nat.reduceBNe, reduceCtorEq]
    refine ⟨h1, h1, ?_⟩
    unfold AtRV
    rw [if_neg hg]
    exact ⟨_, rfl, hrv⟩
end Go.Proofs.YtpnhiknfcpkfbaaGreat
