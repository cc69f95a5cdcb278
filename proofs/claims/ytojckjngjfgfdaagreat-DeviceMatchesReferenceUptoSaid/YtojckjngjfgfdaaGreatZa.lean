import Derived.Test.YtojckjngjfgfdaaGreatEa
namespace Go.Proofs.YtojckjngjfgfdaaGreat
set_option linter.unusedSimpArgs false
set_option linter.unusedVariables false
open Go.Proofs.YtojckjngjfgfdaaGreat.Vc
/-! ### The reference's order and validity -/
theorem rLess (a b : Ed) (R : RO) : CallsR Tryz.prog 91 [a.val, b.val] R fun _ v => v = .bool (lessE a b) := by
  simp only [Ed.val]
  refine callsT mix Tryz.func91 comp91 (by simp [Tryz.ntmps91]) ?_; simp only [go_sem, ↓reduceIte, Nat.reduceEqDiff, Nat.reduceAdd, Nat.reduceMul, Nat.reduceLeDiff, Nat.reduceLT, Nat.reduceBNe, reduceCtorEq, vc91, rs91]
  unfold lessE
  repeat' (with_reducible first | refine And.intro ?_ ?_ | intro _)
  all_goals (congr 1)
  all_goals first
    | rfl
    | (simp; done)
    | (simp; omega)
    | (rw [decide_eq_decide]; omega)
    | (symm; rw [decide_eq_true_iff]; omega)
    | (symm; rw [decide_eq_false_iff_not]; omega)
theorem rOverrules (a b : Ed) (R : RO) : CallsR Tryz.prog 73 [a.val, b.val] R fun _ v => v = .bool (overE a b) := by
  have hL := rLess a b
  simp only [Ed.val] at hL ⊢
  refine callsT mix Tryz.func73 comp73 (by simp [Tryz.ntmps73]) ?_; simp only [go_sem, ↓reduceIte, Nat.reduceEqDiff, Nat.reduceAdd, Nat.reduceMul, Nat.reduceLeDiff, Nat.reduceLT, Nat.reduceBNe, reduceCtorEq, vc73, rs73]
  refine vcall (hL R) ?_
  rintro R1 v h1 rfl
  try simp only [go_sem, ↓reduceIte, Nat.reduceEqDiff, Nat.reduceAdd, Nat.reduceMul, Nat.reduceLeDiff, Nat.reduceLT, Nat.reduceBNe, reduceCtorEq]
  unfold overE
  generalize lessE a b = l
  clear hL
  repeat' (with_reducible first | refine And.intro ?_ ?_ | intro _)
  all_goals (congr 1)
  all_goals (try subst_vars)
  all_goals (repeat' split)
  all_goals first
    | rfl
    | (exfalso; omega)
    | (simp; done)
    | (simp; omega)
    | (cases l <;> simp <;> omega)
    | (cases l <;> simp_all <;> omega)
theorem rValidMove (m : Mv) (R : RO) : CallsR Tryz.prog 69 [m.val] R fun _ v => v = .bool (moveOK m) := by
  obtain ⟨day, drop, toDay, minute, length⟩ := m
  simp only [Mv.val]
  refine callsT mix Tryz.func69 comp69 (by simp [Tryz.ntmps69]) ?_; simp only [go_sem, ↓reduceIte, Nat.reduceEqDiff, Nat.reduceAdd, Nat.reduceMul, Nat.reduceLeDiff, Nat.reduceLT, Nat.reduceBNe, reduceCtorEq, vc69, rs69]
  unfold moveOK betw
  cases drop
  all_goals dsimp only
  all_goals repeat' (with_reducible first | refine And.intro ?_ ?_ | intro _)
  all_goals (congr 1)
  all_goals first
    | rfl
    | (simp; done)
    | (simp; omega)
    | (simp_all; done)
    | (simp_all; omega)
end Go.Proofs.YtojckjngjfgfdaaGreat
namespace Go.Proofs.YtojckjngjfgfdaaGreat
set_option linter.unusedSimpArgs false
set_option linter.unusedVariables false
open Go.Proofs.YtojckjngjfgfdaaGreat.Vc
theorem zone_z (z : ByteArray) : (z == ⟨#[]⟩) = decide ((z.size : Int) = 0) := by
  obtain ⟨a⟩ := z
  by_cases h : a = #[]
  · subst h; rfl
  · have h1 : ((⟨a⟩ : ByteArray) == ⟨#[]⟩) = false := by
      cases hb : ((⟨a⟩ : ByteArray) == ⟨#[]⟩) with
      | false => rfl
      | true =>
        exfalso
        have h2 : (a == #[]) = true := hb
        exact h (by simpa using h2)
    rw [h1]
    symm
    rw [decide_eq_false_iff_not]
    intro h2
    have h3 : a.size = 0 := by
      have : (⟨a⟩ : ByteArray).size = a.size := rfl
      omega
    exact h (by simpa using h3)
set_option maxRecDepth 100000 in
set_option maxHeartbeats 4000000 in
theorem rValid (e : Ed) (R : RO) : CallsR Tryz.prog 58 [e.val] R fun _ v => v = .bool (validE e) := by
  have hm := rValidMove e.mv
  simp only [Ed.val, Mv.val] at hm ⊢
  refine callsT mix Tryz.func58 comp58 (by simp [Tryz.ntmps58]) ?_; simp only [go_sem, ↓reduceIte, Nat.reduceEqDiff, Nat.reduceAdd, Nat.reduceMul, Nat.reduceLeDiff, Nat.reduceLT, Nat.reduceBNe, reduceCtorEq, vc58, rs58]
  repeat' (with_reducible first
    | refine And.intro ?_ ?_
    | intro _
    | (refine vcall (hm _) ?_; rintro _ _ _ rfl; try simp only [go_sem, ↓reduceIte, Nat.reduceEqDiff, Nat.reduceAdd, Nat.reduceMul, Nat.reduceLeDiff, Nat.reduceLT, Nat.reduceBNe, reduceCtorEq]))
  all_goals (congr 1)
  all_goals (unfold validE kindE betw restZ mvZ)
  all_goals first
    | (simp_all [empty_beq]; done)
    | (simp_all [empty_beq]; omega)
    | (simp only [zone_z] at *; simp_all; done)
    | (simp only [zone_z] at *; simp_all; omega)
    | (have hzs : (e.zone == ⟨#[]⟩) = false → 1 ≤ (e.zone.size : Int) := fun h => by rw [zone_z, decide_eq_false_iff_not] at h; omega
       simp_all [empty_beq]; done)
end Go.Proofs.YtojckjngjfgfdaaGreat
