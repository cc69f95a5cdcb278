import Derived.Test.YtojckjngjfgfdaaGreatDr
namespace Go.Proofs.YtojckjngjfgfdaaGreat
set_option linter.unusedSimpArgs false
set_option linter.unusedVariables false
open Go.Proofs.YtojckjngjfgfdaaGreat.Vc
/-! ### After an exchange all know the same (plain) -/
theorem HearK.same {n : Nat} {w : Wd} {i j : Nat} {d d' : Dv} (h : HearK n w i 3 d) (h' : HearK n w j 3 d') : d.edits = d'.edits := by
  refine SortedD.ext (validV_all h.val).2 (validV_all h'.val).2 fun x => ⟨fun hx => ?_, fun hx => ?_⟩
  · obtain ⟨k, hk, hx⟩ := h.sub x hx
    exact h'.hs k hk x hx
  · obtain ⟨k, hk, hx⟩ := h'.sub x hx
    exact h.hs k hk x hx
theorem HearK.len {n : Nat} {M : List De} {w : Wd} (hI : Inv n M w) {i : Nat} {d : Dv} (h : HearK n w i 3 d) : d.edits.length ≤ n :=
  Nat.le_trans ((validV_all h.val).2.len (M := M) fun x hx => by obtain ⟨j, hj, hx⟩ := h.sub x hx; exact (hI.sub j hj).1 x hx) hI.len
/-! ### Edits that are made after a copy, and lost (plain) -/
structure Lost (n : Nat) (M : List De) (w : Wd) (k : Nat) (d : Dv) : Prop where
  ex : ∃ w' M', Inv (n + k) M' w' ∧ w'.n0 = d ∧ w'.n1 = w.n1 ∧ w'.e0 = w.e0 ∧ ∀ x ∈ M, x ∈ M'
theorem Lost.start {n : Nat} {M : List De} {w : Wd} (h : Inv n M w) : Lost n M w 0 w.n0 := ⟨w, M, h, rfl, rfl, rfl, fun _ h => h⟩
theorem Lost.step {n : Nat} {M : List De} {w : Wd} {k : Nat} {d : Dv} (h : Lost n M w k d) (hn : n + k ≤ 39) (e : Ed) : ∃ r, dvAdd d (madeE e) = .ok r ∧ Lost n M w (k + 1) r := by
  obtain ⟨w', M', hI, h0, h1, h2, h3⟩ := h.ex
  have hr := run_add hI (by omega) (o := ⟨0, 0, 0, e⟩) (by show ¬ (0 : Int) % 6 = 3; decide) (by show ¬ (0 : Int) % 6 = 4; decide) (by show ¬ (0 : Int) % 6 = 5; decide)
  have hi : (⟨0, 0, 0, e⟩ : Opn).i = 0 := rfl
  rw [hi] at hr
  have hl := hI.shape (i := 0) (by omega)
  have hx := (hI.nxt 0 (by omega)).1
  have hw0 : w'.now 0 = d := h0
  rw [hw0] at hr hl hx
  obtain ⟨r, e1, e2, e3, e4⟩ := add_ok (d := d) (by rw [← hw0]; exact (hI.val 0 (by omega)).1) e (by omega) (by omega)
  refine ⟨r, e1, runW w' ⟨0, 0, 0, e⟩, _, hr.2, ?_, ?_, ?_, fun x hx => List.mem_append.2 (.inl (h3 x hx))⟩
  · rw [hr.1, e2]; rfl
  · rw [hr.1]; exact h1
  · rw [hr.1]; exact h2
/-- Restoring the older state in a new epoch, making an edit, hearing from one that knows the lost edits. -/
theorem Lost.back {n : Nat} {M : List De} {w : Wd} {k : Nat} {d : Dv} (h : Lost n M w k d) (hI0 : Inv n M w) (hn : n + k ≤ 39) (x : Ed) :
    ∃ other back again known, dvSync w.n1 d = .ok other ∧ dvRestore w.n0 (w.n0.epoch + 20) = .ok back ∧ dvAdd back (madeE x) = .ok again ∧ dvSync again other = .ok known ∧
      again.edits = w.n0.edits ++ [stampD back (madeE x)] ∧ again.edits.length ≤ 40 ∧ d.edits.length ≤ 40 ∧ (∀ y ∈ d.edits, y ∈ known.edits ∧ keyEq y (stampD back (madeE x)) = false) ∧ stampD back (madeE x) ∈ known.edits := by
  obtain ⟨w', M', hI, h0, h1, h2, h3⟩ := h.ex
  have hl := hI.shape (i := 0) (by omega)
  have hlen := hI.len
  have hl0 := hI0.shape (i := 0) (by omega)
  have hw0 : w'.now 0 = d := h0
  have hw1 : w'.now 1 = w.n1 := h1
  have hs0 := (hI.sub 0 (by omega)).1
  have hs1 := (hI.sub 1 (by omega)).1
  have hv0 := (hI.val 0 (by omega)).1
  have hv1 := (hI.val 1 (by omega)).1
  have hx0 := (hI.nxt 0 (by omega)).1
  have hx1 := (hI.nxt 1 (by omega)).1
  rw [hw0] at hs0 hv0 hx0 hl
  rw [hw1] at hs1 hv1 hx1
  obtain ⟨other, o1, _, o3, _, o5, o6⟩ := sync_ok (B := 1 + ((n + k : Nat) : Int)) hv1 hv0 hs1 hs0 hI.key (by omega) (by omega) hx1 hx0
  have hep := hI0.ep 0 (by omega)
  have hvo := (hI0.val 0 (by omega)).1
  have hid := (hI0.id 0 (by omega)).1
  have hnx := (hI0.nxt 0 (by omega)).1
  have hso := (hI0.sub 0 (by omega)).1
  have e0 : w.now 0 = w.n0 := rfl
  have e0' : w.ep 0 = w.e0 := rfl
  rw [e0] at hep hvo hid hnx hso hl0
  rw [e0'] at hep
  obtain ⟨b1, b2⟩ := restore_ok hvo (ep := w.n0.epoch + 20) (by omega) (by omega)
  obtain ⟨back, hbk⟩ : ∃ back : Dv, back = ⟨w.n0.id, w.n0.epoch + 20, w.n0.next, w.n0.edits⟩ := ⟨_, rfl⟩
  rw [← hbk] at b1 b2
  have hbe : back.id = w.n0.id ∧ back.epoch = w.n0.epoch + 20 ∧ back.next = w.n0.next ∧ back.edits = w.n0.edits := by rw [hbk]; exact ⟨rfl, rfl, rfl, rfl⟩
  obtain ⟨again, a1, a2, a3, a4⟩ := add_ok b2 x (by omega) (by rw [hbe.2.2.2]; omega)
  obtain ⟨mine, hm⟩ : ∃ mine, mine = stampD back (madeE x) := ⟨_, rfl⟩
  rw [← hm] at a2 a4
  have hmd : mine.device = 2 ∧ mine.seq = 64 * w.n0.next + (w.n0.epoch + 20) := by
    subst hm
    refine ⟨?_, ?_⟩
    · show back.id = 2; rw [hbe.1, hid]; rfl
    · show 64 * back.next + back.epoch = _; rw [hbe.2.1, hbe.2.2.1]
  have hae : again.edits = w.n0.edits ++ [mine] := by rw [a2]; show back.edits ++ _ = _; rw [hbe.2.2.2]
  have hnew : ∀ m ∈ M', keyEq m mine = false := fun m hm' => by
    rw [← Bool.not_eq_true, keyEq_iff]
    rintro ⟨g1, g2⟩
    have g3 := hI.fresh 0 (by omega) m hm' (by rw [g1, hmd.1]; rfl)
    have g4 : w'.ep 0 = w.e0 := h2
    rw [g4] at g3
    omega
  have hkey : ∀ a ∈ M' ++ [mine], ∀ b ∈ M' ++ [mine], keyEq a b = true → a = b := fun a ha b hb hab => by
    rcases List.mem_append.1 ha with ha | ha <;> rcases List.mem_append.1 hb with hb | hb
    · exact hI.key a ha b hb hab
    · simp only [List.mem_cons, List.not_mem_nil, or_false] at hb
      rw [hb, hnew a ha] at hab; cases hab
    · simp only [List.mem_cons, List.not_mem_nil, or_false] at ha
      rw [ha, keyEq_symm, hnew b hb] at hab; cases hab
    · simp only [List.mem_cons, List.not_mem_nil, or_false] at ha hb
      rw [ha, hb]
  obtain ⟨known, k1, _, _, _, _, k6⟩ := sync_ok (d := again) (o := other) (M := M' ++ [mine]) (B := 2 + ((n + k : Nat) : Int)) a3 o3
    (fun y hy => by
      rw [hae] at hy
      rcases List.mem_append.1 hy with hy | hy
      · exact List.mem_append.2 (.inl (h3 y (hso y hy)))
      · exact List.mem_append.2 (.inr hy))
    (fun y hy => by
      rcases (o6 y).1 hy with hy | hy
      · exact List.mem_append.2 (.inl (hs1 y hy))
      · exact List.mem_append.2 (.inl (hs0 y hy))) hkey (by rw [List.length_append]; show M'.length + 1 ≤ _; omega) (by omega) (by rw [a2]; show back.next + 1 ≤ _; omega) (by omega)
  refine ⟨other, back, again, known, o1, b1, a1, k1, ?_⟩
  rw [← hm]
  refine ⟨hae, ?_, by omega, fun y hy => ⟨(k6 y).2 (.inr ((o6 y).2 (.inr hy))), hnew y (hs0 y hy)⟩, (k6 mine).2 (.inl ?_)⟩
  · rw [hae, List.length_append]; show w.n0.edits.length + 1 ≤ 40; omega
  · rw [hae]; exact List.mem_append.2 (.inr (by simp))
end Go.Proofs.YtojckjngjfgfdaaGreat
