import Derived.Test.YtlakekoekilbaaaVa
import Derived.Test.YtlakekoekilbaaaVcI
namespace Go.Proofs.Ytlakekoekilbaaa
set_option linter.unusedSimpArgs false
set_option linter.unusedVariables false
open Go.Proofs.Ytlakekoekilbaaa.Vc
def I64 (n : Int) : Prop := -9223372036854775808 ≤ n ∧ n ≤ 9223372036854775807
instance (n : Int) : Decidable (I64 n) := by unfold I64; infer_instance

theorem nmod (a b : Int) (hb : 1 ≤ b) (hb2 : I64 b) (_ha : I64 a) (R : RO) :
    CallsR Try.prog 30 [.int .i64 a, .int .i64 b] R fun _ v => v = .int .i64 (a % b) := by
  refine callsT mix Try.func30 comp30 (by simp [Try.ntmps30]) ?_; simp only [go_sem, ↓reduceIte, Nat.reduceEqDiff, Nat.reduceAdd, Nat.reduceMul, Nat.reduceLeDiff, Nat.reduceLT, Nat.reduceBNe, reduceCtorEq, vc30, rs30]
  have h1 := tmod_fix a b hb
  have h2 := tmod_bd a b hb
  unfold I64 at *
  refine ⟨by omega, fun h => ⟨_, W.in64 (by omega), ?_⟩, fun h => ?_⟩
  · rw [if_pos h] at h1; rw [h1]
  · rw [if_neg h] at h1; rw [h1]
theorem nMod (a b : Int) (hb2 : I64 b) (ha : I64 a) (R : RO) :
    CallsR Try.prog 15 [.int .i64 a, .int .i64 b] R fun _ v => v = .tuple #[.int .i64 (if b < 1 then 0 else a % b), .int .i64 (if b < 1 then 1 else 0)] := by
  refine callsT mix Try.func15 comp15 (by simp [Try.ntmps15]) ?_; simp only [go_sem, ↓reduceIte, Nat.reduceEqDiff, Nat.reduceAdd, Nat.reduceMul, Nat.reduceLeDiff, Nat.reduceLT, Nat.reduceBNe, reduceCtorEq, vc15, rs15]
  refine ⟨fun h => by simp [h], fun h => vcall (nmod a b (by omega) hb2 ha R) ?_⟩
  rintro R' v hle rfl
  try simp only [go_sem, ↓reduceIte, Nat.reduceEqDiff, Nat.reduceAdd, Nat.reduceMul, Nat.reduceLeDiff, Nat.reduceLT, Nat.reduceBNe, reduceCtorEq]
  simp [h]
theorem nFloorDiv (a b : Int) (hb2 : I64 b) (ha : I64 a) (R : RO) :
    CallsR Try.prog 14 [.int .i64 a, .int .i64 b] R fun _ v => v = .tuple #[.int .i64 (if b < 1 then 0 else a / b), .int .i64 (if b < 1 then 1 else 0)] := by
  refine callsT mix Try.func14 comp14 (by simp [Try.ntmps14]) ?_; simp only [go_sem, ↓reduceIte, Nat.reduceEqDiff, Nat.reduceAdd, Nat.reduceMul, Nat.reduceLeDiff, Nat.reduceLT, Nat.reduceBNe, reduceCtorEq, vc14, rs14]
  unfold I64 at *
  refine ⟨fun h => by simp [h], fun h => ?_⟩
  have hb : 1 ≤ b := by omega
  have h1 := tdiv_fix a b hb
  have h2 := tdiv_bd a b hb
  refine ⟨by omega, _, W.in64 (by omega), by omega, fun h3 => ⟨_, W.in64 ?_, ?_⟩, fun h3 => ?_⟩
  · rw [if_pos h3] at h1
    have := ediv_bd a b hb
    omega
  · rw [if_pos h3] at h1; simp [h, h1]
  · rw [if_neg h3] at h1; simp [h, h1]
theorem nmag (a : Int) (ha : I64 a) (R : RO) :
    CallsR Try.prog 31 [.int .i64 a] R fun _ v => v = .int .u64 a.natAbs := by
  refine callsT mix Try.func31 comp31 (by simp [Try.ntmps31]) ?_; simp only [go_sem, ↓reduceIte, Nat.reduceEqDiff, Nat.reduceAdd, Nat.reduceMul, Nat.reduceLeDiff, Nat.reduceLT, Nat.reduceBNe, reduceCtorEq, vc31, rs31]
  unfold I64 at *
  refine ⟨fun h => ⟨_, W.mod64 _, _, W.mod64 _, ?_⟩, fun h => ⟨_, W.u64 (by omega), ?_⟩⟩
  · congr 1; omega
  · congr 1; omega
theorem nGcd (a b : Int) (ha : I64 a) (hb : I64 b) (R : RO) :
    CallsR Try.prog 21 [.int .i64 a, .int .i64 b] R fun _ v => v = .int .i64 (if 9223372036854775807 < Int.gcd a b then 0 else Int.gcd a b) := by
  refine callsT mix Try.func21 comp21 (by simp [Try.ntmps21]) ?_; simp only [go_sem, ↓reduceIte, Nat.reduceEqDiff, Nat.reduceAdd, Nat.reduceMul, Nat.reduceLeDiff, Nat.reduceLT, Nat.reduceBNe, reduceCtorEq, vc21, rs21]
  refine vcall (nmag a ha R) ?_
  rintro R1 v hle rfl
  try simp only [go_sem, ↓reduceIte, Nat.reduceEqDiff, Nat.reduceAdd, Nat.reduceMul, Nat.reduceLeDiff, Nat.reduceLT, Nat.reduceBNe, reduceCtorEq]
  refine vcall (nmag b hb R1) ?_
  rintro R2 v hle rfl
  try simp only [go_sem, ↓reduceIte, Nat.reduceEqDiff, Nat.reduceAdd, Nat.reduceMul, Nat.reduceLeDiff, Nat.reduceLT, Nat.reduceBNe, reduceCtorEq]
  unfold I64 at *
  refine vcLoop (Nat × Nat) (fun x => [(5, .val (.int .u64 x.1)), (6, .val (.int .u64 x.2))]) (fun _ => []) (fun x _ => Nat.gcd x.1 x.2 = Int.gcd a b ∧ x.1 ≤ 9223372036854775808 ∧ x.2 ≤ 9223372036854775808) (fun x => x.2) (a.natAbs, b.natAbs) ?_ rfl ?_ ?_
  · simp only [go_sem, ↓reduceIte, Nat.reduceEqDiff, Nat.reduceAdd, Nat.reduceMul, Nat.reduceLeDiff, Nat.reduceLT, Nat.reduceBNe, reduceCtorEq]
  · exact ⟨rfl, by omega, by omega⟩
  · rintro ⟨x, y⟩ env R' hle hv ⟨hg, hx, hy⟩
    simp only [go_sem] at hv
    obtain ⟨h5, h6⟩ := hv
    simp only [go_sem, ↓reduceIte, Nat.reduceEqDiff, Nat.reduceAdd, Nat.reduceMul, Nat.reduceLeDiff, Nat.reduceLT, Nat.reduceBNe, reduceCtorEq, h5, h6]
    refine ⟨fun h => ?_, fun h => ?_⟩
    · refine ⟨h, (y, x % y), Nat.mod_lt _ (by omega), ⟨rfl, ?_⟩, ?_, by omega, ?_⟩
      · rw [tmod_nonneg' (by omega)]; rfl
      · rw [← hg]; simp only; rw [Nat.gcd_comm y, ← Nat.gcd_rec, Nat.gcd_comm]
      · have := Nat.mod_lt x (show 0 < y by omega); simp only; omega
    · have hy0 : y = 0 := by omega
      subst hy0
      simp only [Nat.gcd_zero_right] at hg
      subst hg
      refine ⟨fun h => ?_, fun h => ⟨_, W.in64 (by omega), ?_⟩⟩
      · rw [if_pos (by omega)]
      · rw [if_neg (by omega)]
end Go.Proofs.Ytlakekoekilbaaa
