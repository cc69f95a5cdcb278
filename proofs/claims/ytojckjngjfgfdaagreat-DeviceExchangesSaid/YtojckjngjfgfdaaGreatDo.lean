import Derived.Test.YtojckjngjfgfdaaGreatDv
namespace Go.Proofs.YtojckjngjfgfdaaGreat
set_option linter.unusedSimpArgs false
set_option linter.unusedVariables false
open Go.Proofs.YtojckjngjfgfdaaGreat.Vc
/-! ### Hearing in another order, hearing twice (plain) -/
/-- The next number is just above all that is known, or what it was. -/
structure IsNext (N b : Int) (S : List De) : Prop where
  le : b ≤ N
  lt : ∀ e ∈ S, e.seq / 64 < N
  is : N = b ∨ ∃ e ∈ S, N = e.seq / 64 + 1
theorem IsNext.uniq {N N' b : Int} {S : List De} (h : IsNext N b S) (h' : IsNext N' b S) : N = N' := by
  have h1 := h.le
  have h2 := h'.le
  rcases h.is with h3 | ⟨e, he, h3⟩ <;> rcases h'.is with h4 | ⟨e', he', h4⟩
  · omega
  · have := h.lt e' he'; omega
  · have := h'.lt e he; omega
  · have := h.lt e' he'; have := h'.lt e he; omega
theorem nextD_is (l : List De) : ∀ n : Int, nextD n l = n ∨ ∃ e ∈ l, nextD n l = e.seq / 64 + 1 := by
  unfold nextD
  induction l with
  | nil => intro n; exact .inl rfl
  | cons e l ih =>
    intro n
    rw [List.foldl_cons]
    rcases ih (max n (e.seq / 64 + 1)) with h | ⟨x, hx, h⟩
    · rw [h]
      by_cases hm : n ≤ e.seq / 64 + 1
      · exact .inr ⟨e, by simp, by omega⟩
      · exact .inl (by omega)
    · exact .inr ⟨x, by simp [hx], h⟩
/-- What hearing does to the next number, counted from an earlier state on. -/
theorem sync_next {d o r : Dv} {b : Int} (hb : IsNext d.next b d.edits) (hr : r = ⟨d.id, d.epoch, nextD d.next (freshD d.edits o.edits), unionD d.edits o.edits⟩) (hv : validV r = true) (hm : ∀ e, e ∈ r.edits ↔ e ∈ d.edits ∨ e ∈ o.edits) : IsNext r.next b r.edits := by
  have h1 := nextD_le d.next (freshD d.edits o.edits)
  have hrn : r.next = nextD d.next (freshD d.edits o.edits) := by rw [hr]
  have hb1 := hb.le
  refine ⟨by omega, fun e he => ((validV_all hv).1 e he).2, ?_⟩
  rcases nextD_is (freshD d.edits o.edits) d.next with h | ⟨x, hx, h⟩
  · rcases hb.is with h2 | ⟨x, hx, h2⟩
    · exact .inl (by omega)
    · exact .inr ⟨x, (hm x).2 (.inl hx), by omega⟩
  · exact .inr ⟨x, (hm x).2 (.inr (List.mem_filter.1 hx).1), by omega⟩
theorem isNext_self {d : Dv} (hv : validV d = true) : IsNext d.next d.next d.edits := ⟨Int.le_refl _, fun e he => ((validV_all hv).1 e he).2, .inl rfl⟩
theorem Dv.eq_of {a b : Dv} (h1 : a.id = b.id) (h2 : a.epoch = b.epoch) (h3 : a.next = b.next) (h4 : a.edits = b.edits) : a = b := by
  cases a; cases b; simp only at h1 h2 h3 h4; subst h1 h2 h3 h4; rfl
theorem fresh_len {a b : List De} (ha : SortedD a) (hb : SortedD b) : (unionD a b).length = a.length + (freshD a b).length := by
  have hu := unionD_spec ha hb
  have hf : SortedD (freshD a b) := List.Pairwise.sublist List.filter_sublist hb
  have hnf : ∀ y, y ∈ freshD a b ↔ y ∈ b ∧ ∀ x ∈ a, keyEq y x = false := fun y => by
    unfold freshD
    rw [List.mem_filter]
    refine and_congr_right fun _ => ?_
    constructor
    · intro h x hx
      cases hk : keyEq y x with
      | false => rfl
      | true =>
        have : a.any (keyEq y) = true := List.any_eq_true.2 ⟨x, hx, hk⟩
        rw [this] at h; cases h
    · intro h
      have : a.any (keyEq y) = false := List.any_eq_false.2 fun x hx => by rw [h x hx]; simp
      rw [this]; rfl
  rw [← List.length_append]
  refine Nat.le_antisymm (nodup_len _ _ hu.1.ne fun x hx => ?_) (nodup_len _ _ (List.pairwise_append.2 ⟨ha.ne, hf.ne, fun x hx y hy => ?_⟩) fun x hx => ?_)
  · rcases (hu.2 x).1 hx with h | h
    · exact List.mem_append.2 (.inl h)
    · exact List.mem_append.2 (.inr ((hnf x).2 h))
  · rintro rfl
    have := ((hnf x).1 hy).2 x hx
    rw [keyEq_refl] at this; cases this
  · refine (hu.2 x).2 ?_
    rcases List.mem_append.1 hx with h | h
    · exact .inl h
    · exact .inr ((hnf x).1 h)
structure Exch (a b c ab ba abc ac acb twice : Dv) : Prop where
  e1 : dvSync a b = .ok ab
  e2 : dvSync b a = .ok ba
  e3 : dvSync ab c = .ok abc
  e4 : dvSync a c = .ok ac
  e5 : dvSync ac b = .ok acb
  e6 : dvSync ab b = .ok twice
  len : ab.edits.length = a.edits.length + (dvLacks a b).length
  same : ab.edits = ba.edits
  ord : abc = acb
  twi : twice = ab
  none : dvLacks ab b = []
  lk : ∀ x ∈ dvLacks a b, (∀ y ∈ a.edits, keyEq x y = false) ∧ x ∈ b.edits ∧ x ∈ ab.edits
theorem exch {n : Nat} {M : List De} {w : Wd} (hI : Inv n M w) (hn : n ≤ 12) : ∃ ab ba abc ac acb twice, Exch w.n0 w.n1 w.n2 ab ba abc ac acb twice := by
  have hlen := hI.len
  have v0 : validV w.n0 = true := (hI.val 0 (by omega)).1
  have v1 : validV w.n1 = true := (hI.val 1 (by omega)).1
  have v2 : validV w.n2 = true := (hI.val 2 (by omega)).1
  have s0 : ∀ e ∈ w.n0.edits, e ∈ M := (hI.sub 0 (by omega)).1
  have s1 : ∀ e ∈ w.n1.edits, e ∈ M := (hI.sub 1 (by omega)).1
  have s2 : ∀ e ∈ w.n2.edits, e ∈ M := (hI.sub 2 (by omega)).1
  have x0 : w.n0.next ≤ 1 + n := (hI.nxt 0 (by omega)).1
  have x1 : w.n1.next ≤ 1 + n := (hI.nxt 1 (by omega)).1
  have x2 : w.n2.next ≤ 1 + n := (hI.nxt 2 (by omega)).1
  have hB : (1 + (n : Int)) ≤ 17179869184 := by omega
  obtain ⟨ab, p1, p2, p3, _, p5, p6⟩ := sync_ok v0 v1 s0 s1 hI.key (by omega) hB x0 x1
  obtain ⟨ba, q1, q2, q3, _, q5, q6⟩ := sync_ok v1 v0 s1 s0 hI.key (by omega) hB x1 x0
  have sab : ∀ e ∈ ab.edits, e ∈ M := fun e he => ((p6 e).1 he).elim (s0 e) (s1 e)
  obtain ⟨abc, r1, r2, r3, _, r5, r6⟩ := sync_ok p3 v2 sab s2 hI.key (by omega) hB p5 x2
  obtain ⟨ac, t1, t2, t3, _, t5, t6⟩ := sync_ok v0 v2 s0 s2 hI.key (by omega) hB x0 x2
  have sac : ∀ e ∈ ac.edits, e ∈ M := fun e he => ((t6 e).1 he).elim (s0 e) (s2 e)
  obtain ⟨acb, u1, u2, u3, _, u5, u6⟩ := sync_ok t3 v1 sac s1 hI.key (by omega) hB t5 x1
  obtain ⟨tw, z1, z2, z3, _, z5, z6⟩ := sync_ok p3 v1 sab s1 hI.key (by omega) hB p5 x1
  have nab := sync_next (isNext_self v0) p2 p3 p6
  have nabc := sync_next nab r2 r3 r6
  have nac := sync_next (isNext_self v0) t2 t3 t6
  have nacb := sync_next nac u2 u3 u6
  have ntw := sync_next nab z2 z3 z6
  have habc : abc.edits = acb.edits := SortedD.ext (validV_all r3).2 (validV_all u3).2 fun x => by
    rw [r6, u6, p6, t6]
    constructor <;> (intro h; rcases h with (h | h) | h <;> simp [h])
  have htw : tw.edits = ab.edits := SortedD.ext (validV_all z3).2 (validV_all p3).2 fun x => by
    rw [z6, p6]
    constructor
    · intro h; rcases h with (h | h) | h <;> simp [h]
    · intro h; exact .inl h
  refine ⟨ab, ba, abc, ac, acb, tw, ⟨p1, q1, r1, t1, u1, z1, ?_, ?_, ?_, ?_, ?_, ?_⟩⟩
  · unfold dvLacks
    rw [if_pos ⟨v0, v1⟩, ← fresh_len (validV_all v0).2 (validV_all v1).2, p2]
  · refine SortedD.ext (validV_all p3).2 (validV_all q3).2 fun x => ?_
    rw [p6, q6]; exact or_comm
  · refine Dv.eq_of ?_ ?_ (IsNext.uniq nabc (by rw [habc]; exact nacb)) habc
    · rw [r2, u2]; show ab.id = ac.id; rw [p2, t2]
    · rw [r2, u2]; show ab.epoch = ac.epoch; rw [p2, t2]
  · refine Dv.eq_of ?_ ?_ (IsNext.uniq ntw (by rw [htw]; exact nab)) htw
    · rw [z2]
    · rw [z2]
  · unfold dvLacks
    rw [if_pos ⟨p3, v1⟩]
    unfold freshD
    rw [List.filter_eq_nil_iff]
    intro x hx
    have : ab.edits.any (keyEq x) = true := List.any_eq_true.2 ⟨x, (p6 x).2 (.inr hx), keyEq_refl x⟩
    rw [this]; simp
  · intro x hx
    unfold dvLacks at hx
    rw [if_pos ⟨v0, v1⟩] at hx
    unfold freshD at hx
    obtain ⟨h1, h2⟩ := List.mem_filter.1 hx
    refine ⟨fun y hy => ?_, h1, (p6 x).2 (.inr h1)⟩
    cases hk : keyEq x y with
    | false => rfl
    | true =>
      have : w.n0.edits.any (keyEq x) = true := List.any_eq_true.2 ⟨y, hy, hk⟩
      rw [this] at h2; cases h2
end Go.Proofs.YtojckjngjfgfdaaGreat
