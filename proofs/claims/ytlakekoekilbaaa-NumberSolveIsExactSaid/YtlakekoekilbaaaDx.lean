/- The law SolveIsExact of package number, as a contract of the statement's function. -/
import Derived.Test.YtlakekoekilbaaaDv
namespace Go.Proofs.Ytlakekoekilbaaa
set_option linter.unusedSimpArgs false
set_option linter.unusedVariables false
open Go.RowKit Go.Sort Go.Proofs.Ytlakekoekilbaaa.Vc

theorem lExact (a b m n : Int) (ha : I64 a) (hb : I64 b) (hm : I64 m) (hn : I64 n) (R : RO) : CallsR Try.prog 8 [.agg #[.int .i64 a, .int .i64 b], .int .i64 m, .int .i64 n] R fun _ v => v = .bool true := by
  refine callsT mix Try.func8 comp8 (by simp [Try.ntmps8]) ?_; simp only [go_sem, ↓reduceIte, Nat.reduceEqDiff, Nat.reduceAdd, Nat.reduceMul, Nat.reduceLeDiff, Nat.reduceLT, Nat.reduceBNe, reduceCtorEq, vc8, rs8]
  try simp only [go_sem, ↓reduceIte, Nat.reduceEqDiff, Nat.reduceAdd, Nat.reduceMul, Nat.reduceLeDiff, Nat.reduceLT, Nat.reduceBNe, reduceCtorEq, Int.reduceLE, Int.reduceLT, Int.reduceToNat, Int.cast_ofNat_Int, Int.reduceEq, Int.reduceNe]
  refine vcall (nSanity R) ?_
  rintro R1 v hle1 rfl
  try simp only [go_sem, ↓reduceIte, Nat.reduceEqDiff, Nat.reduceAdd, Nat.reduceMul, Nat.reduceLeDiff, Nat.reduceLT, Nat.reduceBNe, reduceCtorEq, Int.reduceLE, Int.reduceLT, Int.reduceToNat, Int.cast_ofNat_Int, Int.reduceEq, Int.reduceNe]
  refine vcall (nSolve a m b n ha hm hb hn (fun a b m ha hb hm h R => nTimes a b m ha hb (by omega) h R) _) ?_
  rintro R2 v hle2 hv
  by_cases h1 : 1 ≤ m ∧ 1 ≤ n
  case neg =>
    rcases hv with ⟨_, rfl⟩ | ⟨h0, _⟩ | ⟨h0, _⟩ | ⟨h0, _⟩
    · try simp only [go_sem, ↓reduceIte, Nat.reduceEqDiff, Nat.reduceAdd, Nat.reduceMul, Nat.reduceLeDiff, Nat.reduceLT, Nat.reduceBNe, reduceCtorEq, Int.reduceLE, Int.reduceLT, Int.reduceToNat, Int.cast_ofNat_Int, Int.reduceEq, Int.reduceNe]
      exact fun h2 h3 => absurd ⟨by omega, by omega⟩ h1
    all_goals exact absurd h0 h1
  case pos =>
    have hg := gcdV_eq hm hn (by omega) (by omega) (by omega)
    have hgl := gcd_le_left (a := m) n h1.1
    have hlI := lcm_le (m := m) (n := n) (c := m) (d := n) (by omega) (by omega)
    obtain ⟨x, l, e, rfl⟩ := hv.form
    unfold I64 at *
    try simp only [go_sem, ↓reduceIte, Nat.reduceEqDiff, Nat.reduceAdd, Nat.reduceMul, Nat.reduceLeDiff, Nat.reduceLT, Nat.reduceBNe, reduceCtorEq, Int.reduceLE, Int.reduceLT, Int.reduceToNat, Int.cast_ofNat_Int, Int.reduceEq, Int.reduceNe]
    refine ⟨fun _ => ⟨fun h => by omega, fun _ => ?_⟩, fun h => by omega⟩
    refine vcall (nGcdV m n hm hn _) ?_
    rintro R3 v hle3 rfl
    rw [hg.1]
    try simp only [go_sem, ↓reduceIte, Nat.reduceEqDiff, Nat.reduceAdd, Nat.reduceMul, Nat.reduceLeDiff, Nat.reduceLT, Nat.reduceBNe, reduceCtorEq, Int.reduceLE, Int.reduceLT, Int.reduceToNat, Int.cast_ofNat_Int, Int.reduceEq, Int.reduceNe]
    refine ⟨fun h => by omega, fun _ => ?_⟩
    refine vcall (nMod a _ (by unfold I64; omega) ha _) ?_
    rintro R4 v hle4 rfl
    rw [if_neg (by omega), if_neg (by omega)]
    try simp only [go_sem, ↓reduceIte, Nat.reduceEqDiff, Nat.reduceAdd, Nat.reduceMul, Nat.reduceLeDiff, Nat.reduceLT, Nat.reduceBNe, reduceCtorEq, Int.reduceLE, Int.reduceLT, Int.reduceToNat, Int.cast_ofNat_Int, Int.reduceEq, Int.reduceNe]
    refine vcall (nMod b _ (by unfold I64; omega) hb _) ?_
    rintro R5 v hle5 rfl
    rw [if_neg (by omega), if_neg (by omega)]
    try simp only [go_sem, ↓reduceIte, Nat.reduceEqDiff, Nat.reduceAdd, Nat.reduceMul, Nat.reduceLeDiff, Nat.reduceLT, Nat.reduceBNe, reduceCtorEq, Int.reduceLE, Int.reduceLT, Int.reduceToNat, Int.cast_ofNat_Int, Int.reduceEq, Int.reduceNe]
    refine ⟨fun hne => ?_, fun heq => ?_⟩
    · have hnd : ¬ (Int.gcd m n : Int) ∣ b - a := fun h => hne ((emod_eq_iff a b _).2 h)
      have := solve_none hv h1.1 h1.2 hnd
      simp only [Value.tuple.injEq, Array.mk.injEq, List.cons.injEq, Value.int.injEq, true_and, and_true] at this
      obtain ⟨rfl, rfl, rfl⟩ := this
      try simp only [go_sem, ↓reduceIte, Nat.reduceEqDiff, Nat.reduceAdd, Nat.reduceMul, Nat.reduceLeDiff, Nat.reduceLT, Nat.reduceBNe, reduceCtorEq, Int.reduceLE, Int.reduceLT, Int.reduceToNat, Int.cast_ofNat_Int, Int.reduceEq, Int.reduceNe]
    · have hd : (Int.gcd m n : Int) ∣ b - a := (emod_eq_iff a b _).1 (by first | exact heq | exact Classical.not_not.1 heq)
      refine vcall (nLcm m n hm hn _) ?_
      rintro R6 v hle6 rfl
      by_cases hL : 1099511627776 < (Int.lcm m n : Int)
      · have e1 : lcmE m n = 2 := by unfold lcmE; rw [if_neg (by omega), if_pos hL]
        have e2 : lcmV m n = 0 := by unfold lcmV; rw [if_neg (by omega)]
        rw [e1, e2]
        have : Value.tuple #[.int .i64 x, .int .i64 l, .int .i64 e] = .tuple #[.int .i64 0, .int .i64 0, .int .i64 2] := by
          rcases hv with ⟨h2, _⟩ | ⟨_, h2, _⟩ | ⟨_, _, _, h2⟩ | ⟨_, _, h2, _⟩
          · exact absurd h1 h2
          · exact absurd hd h2
          · exact h2
          · omega
        simp only [Value.tuple.injEq, Array.mk.injEq, List.cons.injEq, Value.int.injEq, true_and, and_true] at this
        obtain ⟨rfl, rfl, rfl⟩ := this
        try simp only [go_sem, ↓reduceIte, Nat.reduceEqDiff, Nat.reduceAdd, Nat.reduceMul, Nat.reduceLeDiff, Nat.reduceLT, Nat.reduceBNe, reduceCtorEq, Int.reduceLE, Int.reduceLT, Int.reduceToNat, Int.cast_ofNat_Int, Int.reduceEq, Int.reduceNe]
      · have e1 : lcmE m n = 0 := by unfold lcmE; rw [if_neg (by omega), if_neg hL]
        have e2 : lcmV m n = Int.lcm m n := by unfold lcmV; rw [if_pos e1]
        rw [e1, e2]
        rcases hv.ok h1.1 h1.2 (by omega) with ⟨h2, _⟩ | ⟨_, z, z1, z2, z3, z4, hz⟩
        · exact absurd hd h2
        simp only [Value.tuple.injEq, Array.mk.injEq, List.cons.injEq, Value.int.injEq, true_and, and_true] at hz
        obtain ⟨rfl, rfl, rfl⟩ := hz
        try simp only [go_sem, ↓reduceIte, Nat.reduceEqDiff, Nat.reduceAdd, Nat.reduceMul, Nat.reduceLeDiff, Nat.reduceLT, Nat.reduceBNe, reduceCtorEq, Int.reduceLE, Int.reduceLT, Int.reduceToNat, Int.cast_ofNat_Int, Int.reduceEq, Int.reduceNe]
        refine vcall (nMod a m (by unfold I64; omega) ha _) ?_
        rintro R7 v hle7 rfl
        rw [if_neg (by omega), if_neg (by omega)]
        try simp only [go_sem, ↓reduceIte, Nat.reduceEqDiff, Nat.reduceAdd, Nat.reduceMul, Nat.reduceLeDiff, Nat.reduceLT, Nat.reduceBNe, reduceCtorEq, Int.reduceLE, Int.reduceLT, Int.reduceToNat, Int.cast_ofNat_Int, Int.reduceEq, Int.reduceNe]
        refine vcall (nMod b n (by unfold I64; omega) hb _) ?_
        rintro R8 v hle8 rfl
        rw [if_neg (by omega), if_neg (by omega)]
        have t1 : x.tmod m = a % m := by rw [tmod_nonneg' z1]; exact ((emod_eq_iff a x m).2 z3).symm
        have t2 : x.tmod n = b % n := by rw [tmod_nonneg' z1]; exact ((emod_eq_iff b x n).2 z4).symm
        try simp only [go_sem, ↓reduceIte, Nat.reduceEqDiff, Nat.reduceAdd, Nat.reduceMul, Nat.reduceLeDiff, Nat.reduceLT, Nat.reduceBNe, reduceCtorEq, Int.reduceLE, Int.reduceLT, Int.reduceToNat, Int.cast_ofNat_Int, Int.reduceEq, Int.reduceNe, t1, t2]
        exact ⟨fun _ => ⟨fun _ => ⟨by omega, by omega⟩, fun h => absurd z2 h⟩, fun h => absurd z1 h⟩
end Go.Proofs.Ytlakekoekilbaaa
