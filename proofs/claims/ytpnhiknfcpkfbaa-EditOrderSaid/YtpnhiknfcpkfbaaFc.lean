import Derived.Test.YtpnhiknfcpkfbaaFb
namespace Go.Proofs.Ytpnhiknfcpkfbaa
set_option linter.unusedSimpArgs false
set_option linter.unusedVariables false
open Go.Proofs.Ytpnhiknfcpkfbaa.Vc
theorem overD_iff (a b : De) : overD a b = true ↔
    (a.kind = 1 ∧ b.kind = 1 ∧ lessD a b = true ∧ a.day = b.day) ∨ ((a.kind = 1 ∧ b.kind = 3 ∨ a.kind = 2 ∧ b.kind = 2 ∨ a.kind = 3 ∧ b.kind = 3) ∧ lessD a b = true ∧ b.day ≤ a.day) ∨
    (a.kind = 4 ∧ b.kind = 4 ∧ lessD a b = true) ∨ ((a.kind = 1 ∨ a.kind = 2 ∨ a.kind = 3) ∧ b.kind = 5 ∧ b.day ≤ a.day) ∨ (a.kind = 5 ∧ b.kind = 5 ∧ (b.day < a.day ∨ b.day = a.day ∧ lessD a b = true)) := by
  have e : overD a b = (if a.kind = 1 ∧ b.kind = 1 then lessD a b && decide (a.day = b.day)
    else if a.kind = 1 ∧ b.kind = 3 ∨ a.kind = 2 ∧ b.kind = 2 ∨ a.kind = 3 ∧ b.kind = 3 then lessD a b && decide (b.day ≤ a.day)
    else if a.kind = 4 ∧ b.kind = 4 then lessD a b
    else if a.kind = 1 ∧ b.kind = 5 ∨ a.kind = 2 ∧ b.kind = 5 ∨ a.kind = 3 ∧ b.kind = 5 then decide (b.day ≤ a.day)
    else if a.kind = 5 ∧ b.kind = 5 then decide (b.day < a.day) || decide (b.day = a.day) && lessD a b
    else false) := rfl
  rw [e]
  generalize lessD a b = l
  constructor
  · intro h
    repeat' (split at h)
    all_goals (cases l <;> simp at h ⊢ <;> omega)
  · intro h
    repeat' split
    all_goals (cases l <;> simp at h ⊢ <;> omega)
theorem overD_irrefl (a : De) : overD a a = false := by
  cases h : overD a a with
  | false => rfl
  | true => rw [overD_iff, lessD_irrefl] at h; simp at h; omega
theorem overD_trans {a b c : De} (h : overD a b = true) (k : overD b c = true) : overD a c = true := by
  rw [overD_iff] at *
  have ht : lessD a b = true → lessD b c = true → lessD a c = true := fun h k => lessD_trans h k
  rcases h with ⟨h1, h2, h3, h4⟩ | ⟨h1, h3, h4⟩ | ⟨h1, h2, h3⟩ | ⟨h1, h2, h4⟩ | ⟨h1, h2, h4⟩ <;> rcases k with ⟨k1, k2, k3, k4⟩ | ⟨k1, k3, k4⟩ | ⟨k1, k2, k3⟩ | ⟨k1, k2, k4⟩ | ⟨k1, k2, k4⟩
  · exact .inl ⟨h1, k2, ht h3 k3, by omega⟩
  · exact .inr (.inl ⟨by omega, ht h3 k3, by omega⟩)
  · exfalso; omega
  · exact .inr (.inr (.inr (.inl ⟨.inl h1, k2, by omega⟩)))
  · exfalso; omega
  · exfalso; omega
  · exact .inr (.inl ⟨by omega, ht h3 k3, by omega⟩)
  · exfalso; omega
  · exact .inr (.inr (.inr (.inl ⟨by omega, k2, by omega⟩)))
  · exfalso; omega
  · exfalso; omega
  · exfalso; omega
  · exact .inr (.inr (.inl ⟨h1, k2, ht h3 k3⟩))
  · exfalso; omega
  · exfalso; omega
  · exfalso; omega
  · exfalso; omega
  · exfalso; omega
  · exfalso; omega
  · exact .inr (.inr (.inr (.inl ⟨h1, k2, by omega⟩)))
  · exfalso; omega
  · exfalso; omega
  · exfalso; omega
  · exfalso; omega
  · refine .inr (.inr (.inr (.inr ⟨h1, k2, ?_⟩)))
    rcases h4 with h4 | ⟨h4, h5⟩
    · exact .inl (by omega)
    · rcases k4 with k4 | ⟨k4, k5⟩
      · exact .inl (by omega)
      · exact .inr ⟨by omega, ht h5 k5⟩
set_option maxRecDepth 10000 in
set_option maxHeartbeats 2000000 in
theorem lOrder (R : RO) (a b c : Ed) : CallsR Try.prog 3 [a.val, b.val, c.val] R fun _ v => v = .bool true := by
  have hS := eSanity
  have hA := eMadeEdit a
  have hB := eMadeEdit b
  have hC := eMadeEdit c
  simp only [Ed.val] at hA hB hC ⊢
  refine callsT mix Try.func3 comp3 (by simp [Try.ntmps3]) ?_; simp only [go_sem, ↓reduceIte, Nat.reduceEqDiff, Nat.reduceAdd, Nat.reduceMul, Nat.reduceLeDiff, Nat.reduceLT, Nat.reduceBNe, reduceCtorEq, vc3, rs3]
  refine vcall (hS R) ?_
  rintro R1 v hle1 rfl
  try simp only [go_sem, ↓reduceIte, Nat.reduceEqDiff, Nat.reduceAdd, Nat.reduceMul, Nat.reduceLeDiff, Nat.reduceLT, Nat.reduceBNe, reduceCtorEq]
  refine vcall (hA R1) ?_
  rintro R2 v hle2 ⟨cx, rfl, hx⟩
  try simp only [go_sem, ↓reduceIte, Nat.reduceEqDiff, Nat.reduceAdd, Nat.reduceMul, Nat.reduceLeDiff, Nat.reduceLT, Nat.reduceBNe, reduceCtorEq]
  refine vcall (hB R2) ?_
  rintro R3 v hle3 ⟨cy, rfl, hy⟩
  try simp only [go_sem, ↓reduceIte, Nat.reduceEqDiff, Nat.reduceAdd, Nat.reduceMul, Nat.reduceLeDiff, Nat.reduceLT, Nat.reduceBNe, reduceCtorEq]
  refine vcall (hC R3) ?_
  rintro R4 v hle4 ⟨cz, rfl, hz⟩
  obtain ⟨xa, xn, xc, rfl, _⟩ := hx.form
  obtain ⟨ya, yn, yc, rfl, _⟩ := hy.form
  obtain ⟨za, zn, zc, rfl, _⟩ := hz.form
  obtain ⟨x, hxe⟩ : ∃ x, x = madeE a := ⟨_, rfl⟩
  obtain ⟨y, hye⟩ : ∃ y, y = madeE b := ⟨_, rfl⟩
  obtain ⟨z, hze⟩ : ∃ z, z = madeE c := ⟨_, rfl⟩
  rw [← hxe, ← hye, ← hze]
  have hL : ∀ (p q : De) (a1 a2 : Option Addr) (n1 n2 c1 c2 : Nat) (R : RO), CallsR Try.prog 13 [(p.ed a1 n1 c1).val, (q.ed a2 n2 c2).val] R fun _ v => v = .bool (lessD p q) := fun p q a1 a2 n1 n2 c1 c2 R => eLess (p.ed a1 n1 c1) (q.ed a2 n2 c2) R
  have hO : ∀ (p q : De) (a1 a2 : Option Addr) (n1 n2 c1 c2 : Nat) (R : RO), CallsR Try.prog 14 [(p.ed a1 n1 c1).val, (q.ed a2 n2 c2).val] R fun _ v => v = .bool (overD p q) := fun p q a1 a2 n1 n2 c1 c2 R => eOverrules (p.ed a1 n1 c1) (q.ed a2 n2 c2) R
  simp only [Ed.val, De.ed] at hL hO
  have f1 := lessD_irrefl x
  have f2 := overD_irrefl x
  have f3 : lessD x y = true → lessD y x = true → False := fun h k => by rw [lessD_asymm h] at k; cases k
  have f4 : lessD x y = false → lessD y x = false → x.device = y.device ∧ x.seq = y.seq := fun h k => (keyEq_iff _ _).1 (lessD_total h k)
  have f5 : lessD x y = true → lessD y z = true → lessD x z = true := lessD_trans
  have f6 : overD x y = true → overD y z = true → overD x z = true := overD_trans
  clear hA hB hC hS hx hy hz
  cases g1 : lessD x y with
  | true =>
    have g2 := lessD_asymm g1
    by_cases q1 : x.seq = y.seq
    · have q2 : (x.device = y.device) = False := eq_false fun e => by rw [lessD_iff] at g1; omega
      have q3 := eq_true q1
      try simp only [go_sem, ↓reduceIte, Nat.reduceEqDiff, Nat.reduceAdd, Nat.reduceMul, Nat.reduceLeDiff, Nat.reduceLT, Nat.reduceBNe, reduceCtorEq, Ed.cells, De.ed, q3, q2, f1, f2, g1, g2]
      repeat' (first
        | (with_reducible refine vcall (hL x x xa xa xn xn xc xc _) ?_; rintro _ _ _ rfl; try simp only [go_sem, ↓reduceIte, Nat.reduceEqDiff, Nat.reduceAdd, Nat.reduceMul, Nat.reduceLeDiff, Nat.reduceLT, Nat.reduceBNe, reduceCtorEq, q3, q2, f1, f2, g1, g2])
        | (with_reducible refine vcall (hL x y xa ya xn yn xc yc _) ?_; rintro _ _ _ rfl; try simp only [go_sem, ↓reduceIte, Nat.reduceEqDiff, Nat.reduceAdd, Nat.reduceMul, Nat.reduceLeDiff, Nat.reduceLT, Nat.reduceBNe, reduceCtorEq, q3, q2, f1, f2, g1, g2])
        | (with_reducible refine vcall (hL y x ya xa yn xn yc xc _) ?_; rintro _ _ _ rfl; try simp only [go_sem, ↓reduceIte, Nat.reduceEqDiff, Nat.reduceAdd, Nat.reduceMul, Nat.reduceLeDiff, Nat.reduceLT, Nat.reduceBNe, reduceCtorEq, q3, q2, f1, f2, g1, g2])
        | (with_reducible refine vcall (hL y z ya za yn zn yc zc _) ?_; rintro _ _ _ rfl; try simp only [go_sem, ↓reduceIte, Nat.reduceEqDiff, Nat.reduceAdd, Nat.reduceMul, Nat.reduceLeDiff, Nat.reduceLT, Nat.reduceBNe, reduceCtorEq, q3, q2, f1, f2, g1, g2])
        | (with_reducible refine vcall (hL x z xa za xn zn xc zc _) ?_; rintro _ _ _ rfl; try simp only [go_sem, ↓reduceIte, Nat.reduceEqDiff, Nat.reduceAdd, Nat.reduceMul, Nat.reduceLeDiff, Nat.reduceLT, Nat.reduceBNe, reduceCtorEq, q3, q2, f1, f2, g1, g2])
        | (with_reducible refine vcall (hO x x xa xa xn xn xc xc _) ?_; rintro _ _ _ rfl; try simp only [go_sem, ↓reduceIte, Nat.reduceEqDiff, Nat.reduceAdd, Nat.reduceMul, Nat.reduceLeDiff, Nat.reduceLT, Nat.reduceBNe, reduceCtorEq, q3, q2, f1, f2, g1, g2])
        | (with_reducible refine vcall (hO x y xa ya xn yn xc yc _) ?_; rintro _ _ _ rfl; try simp only [go_sem, ↓reduceIte, Nat.reduceEqDiff, Nat.reduceAdd, Nat.reduceMul, Nat.reduceLeDiff, Nat.reduceLT, Nat.reduceBNe, reduceCtorEq, q3, q2, f1, f2, g1, g2])
        | (with_reducible refine vcall (hO y z ya za yn zn yc zc _) ?_; rintro _ _ _ rfl; try simp only [go_sem, ↓reduceIte, Nat.reduceEqDiff, Nat.reduceAdd, Nat.reduceMul, Nat.reduceLeDiff, Nat.reduceLT, Nat.reduceBNe, reduceCtorEq, q3, q2, f1, f2, g1, g2])
        | (with_reducible refine vcall (hO x z xa za xn zn xc zc _) ?_; rintro _ _ _ rfl; try simp only [go_sem, ↓reduceIte, Nat.reduceEqDiff, Nat.reduceAdd, Nat.reduceMul, Nat.reduceLeDiff, Nat.reduceLT, Nat.reduceBNe, reduceCtorEq, q3, q2, f1, f2, g1, g2])
        | (with_reducible refine And.intro ?_ ?_)
        | (intro _))
      all_goals (simp_all; done)
    · have q3 := eq_false q1
      try simp only [go_sem, ↓reduceIte, Nat.reduceEqDiff, Nat.reduceAdd, Nat.reduceMul, Nat.reduceLeDiff, Nat.reduceLT, Nat.reduceBNe, reduceCtorEq, Ed.cells, De.ed, q3, f1, f2, g1, g2]
      repeat' (first
        | (with_reducible refine vcall (hL x x xa xa xn xn xc xc _) ?_; rintro _ _ _ rfl; try simp only [go_sem, ↓reduceIte, Nat.reduceEqDiff, Nat.reduceAdd, Nat.reduceMul, Nat.reduceLeDiff, Nat.reduceLT, Nat.reduceBNe, reduceCtorEq, q3, f1, f2, g1, g2])
        | (with_reducible refine vcall (hL x y xa ya xn yn xc yc _) ?_; rintro _ _ _ rfl; try simp only [go_sem, ↓reduceIte, Nat.reduceEqDiff, Nat.reduceAdd, Nat.reduceMul, Nat.reduceLeDiff, Nat.reduceLT, Nat.reduceBNe, reduceCtorEq, q3, f1, f2, g1, g2])
        | (with_reducible refine vcall (hL y x ya xa yn xn yc xc _) ?_; rintro _ _ _ rfl; try simp only [go_sem, ↓reduceIte, Nat.reduceEqDiff, Nat.reduceAdd, Nat.reduceMul, Nat.reduceLeDiff, Nat.reduceLT, Nat.reduceBNe, reduceCtorEq, q3, f1, f2, g1, g2])
        | (with_reducible refine vcall (hL y z ya za yn zn yc zc _) ?_; rintro _ _ _ rfl; try simp only [go_sem, ↓reduceIte, Nat.reduceEqDiff, Nat.reduceAdd, Nat.reduceMul, Nat.reduceLeDiff, Nat.reduceLT, Nat.reduceBNe, reduceCtorEq, q3, f1, f2, g1, g2])
        | (with_reducible refine vcall (hL x z xa za xn zn xc zc _) ?_; rintro _ _ _ rfl; try simp only [go_sem, ↓reduceIte, Nat.reduceEqDiff, Nat.reduceAdd, Nat.reduceMul, Nat.reduceLeDiff, Nat.reduceLT, Nat.reduceBNe, reduceCtorEq, q3, f1, f2, g1, g2])
        | (with_reducible refine vcall (hO x x xa xa xn xn xc xc _) ?_; rintro _ _ _ rfl; try simp only [go_sem, ↓reduceIte, Nat.reduceEqDiff, Nat.reduceAdd, Nat.reduceMul, Nat.reduceLeDiff, Nat.reduceLT, Nat.reduceBNe, reduceCtorEq, q3, f1, f2, g1, g2])
        | (with_reducible refine vcall (hO x y xa ya xn yn xc yc _) ?_; rintro _ _ _ rfl; try simp only [go_sem, ↓reduceIte, Nat.reduceEqDiff, Nat.reduceAdd, Nat.reduceMul, Nat.reduceLeDiff, Nat.reduceLT, Nat.reduceBNe, reduceCtorEq, q3, f1, f2, g1, g2])
        | (with_reducible refine vcall (hO y z ya za yn zn yc zc _) ?_; rintro _ _ _ rfl; try simp only [go_sem, ↓reduceIte, Nat.reduceEqDiff, Nat.reduceAdd, Nat.reduceMul, Nat.reduceLeDiff, Nat.reduceLT, Nat.reduceBNe, reduceCtorEq, q3, f1, f2, g1, g2])
        | (with_reducible refine vcall (hO x z xa za xn zn xc zc _) ?_; rintro _ _ _ rfl; try simp only [go_sem, ↓reduceIte, Nat.reduceEqDiff, Nat.reduceAdd, Nat.reduceMul, Nat.reduceLeDiff, Nat.reduceLT, Nat.reduceBNe, reduceCtorEq, q3, f1, f2, g1, g2])
        | (with_reducible refine And.intro ?_ ?_)
        | (intro _))
      all_goals (simp_all; done)
  | false =>
    cases g2 : lessD y x with
    | true =>
      by_cases q1 : x.seq = y.seq
      · have q2 : (x.device = y.device) = False := eq_false fun e => by rw [lessD_iff] at g2; omega
        have q3 := eq_true q1
        try simp only [go_sem, ↓reduceIte, Nat.reduceEqDiff, Nat.reduceAdd, Nat.reduceMul, Nat.reduceLeDiff, Nat.reduceLT, Nat.reduceBNe, reduceCtorEq, Ed.cells, De.ed, q3, q2, f1, f2, g1, g2]
        repeat' (first
          | (with_reducible refine vcall (hL x x xa xa xn xn xc xc _) ?_; rintro _ _ _ rfl; try simp only [go_sem, ↓reduceIte, Nat.reduceEqDiff, Nat.reduceAdd, Nat.reduceMul, Nat.reduceLeDiff, Nat.reduceLT, Nat.reduceBNe, reduceCtorEq, q3, q2, f1, f2, g1, g2])
          | (with_reducible refine vcall (hL x y xa ya xn yn xc yc _) ?_; rintro _ _ _ rfl; try simp only [go_sem, ↓reduceIte, Nat.reduceEqDiff, Nat.reduceAdd, Nat.reduceMul, Nat.reduceLeDiff, Nat.reduceLT, Nat.reduceBNe, reduceCtorEq, q3, q2, f1, f2, g1, g2])
          | (with_reducible refine vcall (hL y x ya xa yn xn yc xc _) ?_; rintro _ _ _ rfl; try simp only [go_sem, ↓reduceIte, Nat.reduceEqDiff, Nat.reduceAdd, Nat.reduceMul, Nat.reduceLeDiff, Nat.reduceLT, Nat.reduceBNe, reduceCtorEq, q3, q2, f1, f2, g1, g2])
          | (with_reducible refine vcall (hL y z ya za yn zn yc zc _) ?_; rintro _ _ _ rfl; try simp only [go_sem, ↓reduceIte, Nat.reduceEqDiff, Nat.reduceAdd, Nat.reduceMul, Nat.reduceLeDiff, Nat.reduceLT, Nat.reduceBNe, reduceCtorEq, q3, q2, f1, f2, g1, g2])
          | (with_reducible refine vcall (hL x z xa za xn zn xc zc _) ?_; rintro _ _ _ rfl; try simp only [go_sem, ↓reduceIte, Nat.reduceEqDiff, Nat.reduceAdd, Nat.reduceMul, Nat.reduceLeDiff, Nat.reduceLT, Nat.reduceBNe, reduceCtorEq, q3, q2, f1, f2, g1, g2])
          | (with_reducible refine vcall (hO x x xa xa xn xn xc xc _) ?_; rintro _ _ _ rfl; try simp only [go_sem, ↓reduceIte, Nat.reduceEqDiff, Nat.reduceAdd, Nat.reduceMul, Nat.reduceLeDiff, Nat.reduceLT, Nat.reduceBNe, reduceCtorEq, q3, q2, f1, f2, g1, g2])
          | (with_reducible refine vcall (hO x y xa ya xn yn xc yc _) ?_; rintro _ _ _ rfl; try simp only [go_sem, ↓reduceIte, Nat.reduceEqDiff, Nat.reduceAdd, Nat.reduceMul, Nat.reduceLeDiff, Nat.reduceLT, Nat.reduceBNe, reduceCtorEq, q3, q2, f1, f2, g1, g2])
          | (with_reducible refine vcall (hO y z ya za yn zn yc zc _) ?_; rintro _ _ _ rfl; try simp only [go_sem, ↓reduceIte, Nat.reduceEqDiff, Nat.reduceAdd, Nat.reduceMul, Nat.reduceLeDiff, Nat.reduceLT, Nat.reduceBNe, reduceCtorEq, q3, q2, f1, f2, g1, g2])
          | (with_reducible refine vcall (hO x z xa za xn zn xc zc _) ?_; rintro _ _ _ rfl; try simp only [go_sem, ↓reduceIte, Nat.reduceEqDiff, Nat.reduceAdd, Nat.reduceMul, Nat.reduceLeDiff, Nat.reduceLT, Nat.reduceBNe, reduceCtorEq, q3, q2, f1, f2, g1, g2])
          | (with_reducible refine And.intro ?_ ?_)
          | (intro _))
        all_goals (simp_all; done)
      · have q3 := eq_false q1
        try simp only [go_sem, ↓reduceIte, Nat.reduceEqDiff, Nat.reduceAdd, Nat.reduceMul, Nat.reduceLeDiff, Nat.reduceLT, Nat.reduceBNe, reduceCtorEq, Ed.cells, De.ed, q3, f1, f2, g1, g2]
        repeat' (first
          | (with_reducible refine vcall (hL x x xa xa xn xn xc xc _) ?_; rintro _ _ _ rfl; try simp only [go_sem, ↓reduceIte, Nat.reduceEqDiff, Nat.reduceAdd, Nat.reduceMul, Nat.reduceLeDiff, Nat.reduceLT, Nat.reduceBNe, reduceCtorEq, q3, f1, f2, g1, g2])
          | (with_reducible refine vcall (hL x y xa ya xn yn xc yc _) ?_; rintro _ _ _ rfl; try simp only [go_sem, ↓reduceIte, Nat.reduceEqDiff, Nat.reduceAdd, Nat.reduceMul, Nat.reduceLeDiff, Nat.reduceLT, Nat.reduceBNe, reduceCtorEq, q3, f1, f2, g1, g2])
          | (with_reducible refine vcall (hL y x ya xa yn xn yc xc _) ?_; rintro _ _ _ rfl; try simp only [go_sem, ↓reduceIte, Nat.reduceEqDiff, Nat.reduceAdd, Nat.reduceMul, Nat.reduceLeDiff, Nat.reduceLT, Nat.reduceBNe, reduceCtorEq, q3, f1, f2, g1, g2])
          | (with_reducible refine vcall (hL y z ya za yn zn yc zc _) ?_; rintro _ _ _ rfl; try simp only [go_sem, ↓reduceIte, Nat.reduceEqDiff, Nat.reduceAdd, Nat.reduceMul, Nat.reduceLeDiff, Nat.reduceLT, Nat.reduceBNe, reduceCtorEq, q3, f1, f2, g1, g2])
          | (with_reducible refine vcall (hL x z xa za xn zn xc zc _) ?_; rintro _ _ _ rfl; try simp only [go_sem, ↓reduceIte, Nat.reduceEqDiff, Nat.reduceAdd, Nat.reduceMul, Nat.reduceLeDiff, Nat.reduceLT, Nat.reduceBNe, reduceCtorEq, q3, f1, f2, g1, g2])
          | (with_reducible refine vcall (hO x x xa xa xn xn xc xc _) ?_; rintro _ _ _ rfl; try simp only [go_sem, ↓reduceIte, Nat.reduceEqDiff, Nat.reduceAdd, Nat.reduceMul, Nat.reduceLeDiff, Nat.reduceLT, Nat.reduceBNe, reduceCtorEq, q3, f1, f2, g1, g2])
          | (with_reducible refine vcall (hO x y xa ya xn yn xc yc _) ?_; rintro _ _ _ rfl; try simp only [go_sem, ↓reduceIte, Nat.reduceEqDiff, Nat.reduceAdd, Nat.reduceMul, Nat.reduceLeDiff, Nat.reduceLT, Nat.reduceBNe, reduceCtorEq, q3, f1, f2, g1, g2])
          | (with_reducible refine vcall (hO y z ya za yn zn yc zc _) ?_; rintro _ _ _ rfl; try simp only [go_sem, ↓reduceIte, Nat.reduceEqDiff, Nat.reduceAdd, Nat.reduceMul, Nat.reduceLeDiff, Nat.reduceLT, Nat.reduceBNe, reduceCtorEq, q3, f1, f2, g1, g2])
          | (with_reducible refine vcall (hO x z xa za xn zn xc zc _) ?_; rintro _ _ _ rfl; try simp only [go_sem, ↓reduceIte, Nat.reduceEqDiff, Nat.reduceAdd, Nat.reduceMul, Nat.reduceLeDiff, Nat.reduceLT, Nat.reduceBNe, reduceCtorEq, q3, f1, f2, g1, g2])
          | (with_reducible refine And.intro ?_ ?_)
          | (intro _))
        all_goals (simp_all; done)
    | false =>
      have q2 := eq_true (f4 g1 g2).1
      have q3 := eq_true (f4 g1 g2).2
      try simp only [go_sem, ↓reduceIte, Nat.reduceEqDiff, Nat.reduceAdd, Nat.reduceMul, Nat.reduceLeDiff, Nat.reduceLT, Nat.reduceBNe, reduceCtorEq, Ed.cells, De.ed, q3, q2, f1, f2, g1, g2]
      repeat' (first
        | (with_reducible refine vcall (hL x x xa xa xn xn xc xc _) ?_; rintro _ _ _ rfl; try simp only [go_sem, ↓reduceIte, Nat.reduceEqDiff, Nat.reduceAdd, Nat.reduceMul, Nat.reduceLeDiff, Nat.reduceLT, Nat.reduceBNe, reduceCtorEq, q3, q2, f1, f2, g1, g2])
        | (with_reducible refine vcall (hL x y xa ya xn yn xc yc _) ?_; rintro _ _ _ rfl; try simp only [go_sem, ↓reduceIte, Nat.reduceEqDiff, Nat.reduceAdd, Nat.reduceMul, Nat.reduceLeDiff, Nat.reduceLT, Nat.reduceBNe, reduceCtorEq, q3, q2, f1, f2, g1, g2])
        | (with_reducible refine vcall (hL y x ya xa yn xn yc xc _) ?_; rintro _ _ _ rfl; try simp only [go_sem, ↓reduceIte, Nat.reduceEqDiff, Nat.reduceAdd, Nat.reduceMul, Nat.reduceLeDiff, Nat.reduceLT, Nat.reduceBNe, reduceCtorEq, q3, q2, f1, f2, g1, g2])
        | (with_reducible refine vcall (hL y z ya za yn zn yc zc _) ?_; rintro _ _ _ rfl; try simp only [go_sem, ↓reduceIte, Nat.reduceEqDiff, Nat.reduceAdd, Nat.reduceMul, Nat.reduceLeDiff, Nat.reduceLT, Nat.reduceBNe, reduceCtorEq, q3, q2, f1, f2, g1, g2])
        | (with_reducible refine vcall (hL x z xa za xn zn xc zc _) ?_; rintro _ _ _ rfl; try simp only [go_sem, ↓reduceIte, Nat.reduceEqDiff, Nat.reduceAdd, Nat.reduceMul, Nat.reduceLeDiff, Nat.reduceLT, Nat.reduceBNe, reduceCtorEq, q3, q2, f1, f2, g1, g2])
        | (with_reducible refine vcall (hO x x xa xa xn xn xc xc _) ?_; rintro _ _ _ rfl; try simp only [go_sem, ↓reduceIte, Nat.reduceEqDiff, Nat.reduceAdd, Nat.reduceMul, Nat.reduceLeDiff, Nat.reduceLT, Nat.reduceBNe, reduceCtorEq, q3, q2, f1, f2, g1, g2])
        | (with_reducible refine vcall (hO x y xa ya xn yn xc yc _) ?_; rintro _ _ _ rfl; try simp only [go_sem, ↓reduceIte, Nat.reduceEqDiff, Nat.reduceAdd, Nat.reduceMul, Nat.reduceLeDiff, Nat.reduceLT, Nat.reduceBNe, reduceCtorEq, q3, q2, f1, f2, g1, g2])
        | (with_reducible refine vcall (hO y z ya za yn zn yc zc _) ?_; rintro _ _ _ rfl; try simp only [go_sem, ↓reduceIte, Nat.reduceEqDiff, Nat.reduceAdd, Nat.reduceMul, Nat.reduceLeDiff, Nat.reduceLT, Nat.reduceBNe, reduceCtorEq, q3, q2, f1, f2, g1, g2])
        | (with_reducible refine vcall (hO x z xa za xn zn xc zc _) ?_; rintro _ _ _ rfl; try simp only [go_sem, ↓reduceIte, Nat.reduceEqDiff, Nat.reduceAdd, Nat.reduceMul, Nat.reduceLeDiff, Nat.reduceLT, Nat.reduceBNe, reduceCtorEq, q3, q2, f1, f2, g1, g2])
        | (with_reducible refine And.intro ?_ ?_)
        | (intro _))
      all_goals (simp_all; done)
end Go.Proofs.Ytpnhiknfcpkfbaa
