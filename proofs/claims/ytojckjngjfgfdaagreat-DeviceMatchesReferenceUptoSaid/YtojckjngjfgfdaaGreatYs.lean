import Derived.Test.YtojckjngjfgfdaaGreatDn
import Derived.Test.YtojckjngjfgfdaaGreatFg
import Derived.Test.YtojckjngjfgfdaaGreatVm
namespace Go.Proofs.YtojckjngjfgfdaaGreat
set_option linter.unusedSimpArgs false
set_option linter.unusedVariables false
open Go.Proofs.YtojckjngjfgfdaaGreat.Vc
/-! ### Devices compared -/
theorem Dv.eq_of' {a b : Dv} (h1 : a.id = b.id) (h2 : a.epoch = b.epoch) (h3 : a.next = b.next) (h4 : a.edits = b.edits) : a = b := by
  cases a; cases b; simp only at h1 h2 h3 h4; subst h1 h2 h3 h4; rfl
theorem rSameDv (a b : Dv) (u v : Value) (R : RO) (h : EdsV R u a.edits) (k : EdsV R v b.edits) : CallsR Tryz.prog 23 [.agg (dvCells a u).toArray, .agg (dvCells b v).toArray] R fun _ r => r = .bool (decide (a = b)) := by
  have hL := eSameList a.edits b.edits u v R h k
  obtain ⟨ua, uc, rfl, _⟩ := h.form
  obtain ⟨va, vc, rfl, _⟩ := k.form
  have hab : a = b ↔ a.id = b.id ∧ a.epoch = b.epoch ∧ a.next = b.next ∧ a.edits = b.edits := ⟨fun h => by rw [h]; exact ⟨rfl, rfl, rfl, rfl⟩, fun ⟨h1, h2, h3, h4⟩ => Dv.eq_of' h1 h2 h3 h4⟩
  simp only [dvCells]
  refine callsT mix Tryz.func23 comp23 (by simp [Tryz.ntmps23]) ?_; simp only [go_sem, ↓reduceIte, Nat.reduceEqDiff, Nat.reduceAdd, Nat.reduceMul, Nat.reduceLeDiff, Nat.reduceLT, Nat.reduceBNe, reduceCtorEq, vc23, rs23]
  refine ⟨fun h1 => ⟨fun h2 => ⟨fun h3 => ?_, fun h3 => ?_⟩, fun h2 => ?_⟩, fun h1 => ?_⟩
  · refine vcall hL ?_
    rintro R1 r hle rfl
    try simp only [go_sem, ↓reduceIte, Nat.reduceEqDiff, Nat.reduceAdd, Nat.reduceMul, Nat.reduceLeDiff, Nat.reduceLT, Nat.reduceBNe, reduceCtorEq]
    congr 1
    rw [decide_eq_decide, hab]
    simp [h1, h2, h3]
  · rw [decide_eq_false]; rw [hab]; exact fun h => h3 h.2.2.1
  · rw [decide_eq_false]; rw [hab]; exact fun h => h2 h.2.1
  · rw [decide_eq_false]; rw [hab]; exact fun h => h1 h.1
theorem validV_cons' {d : Dv} (h : validV d = true) : Cons d.edits := by
  have h3 := validV_all h
  refine ⟨fun e he => (h3.1 e he).1, fun a ha b hb hk => ?_⟩
  have hp : KeysD d.edits := h3.2.imp fun h => lessD_key h
  exact hp.eq ha hb hk
end Go.Proofs.YtojckjngjfgfdaaGreat
