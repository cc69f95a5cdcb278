import Derived.Test.YtojckjngjfgfdaaGreatDk
import Derived.Test.YtojckjngjfgfdaaGreatFg
namespace Go.Proofs.YtojckjngjfgfdaaGreat
set_option linter.unusedSimpArgs false
set_option linter.unusedVariables false
open Go.Proofs.YtojckjngjfgfdaaGreat.Vc
/-! ### Worlds: plain -/
theorem lt3 {i : Nat} (h : i < 3) : i = 0 ∨ i = 1 ∨ i = 2 := by omega
theorem now_setNow (w : Wd) (d : Dv) {i j : Nat} (hi : i < 3) (hj : j < 3) : (w.setNow d i).now j = if j = i then d else w.now j := by
  rcases lt3 hi with rfl | rfl | rfl <;> rcases lt3 hj with rfl | rfl | rfl <;> rfl
theorem copy_setNow (w : Wd) (d : Dv) {i j : Nat} (hi : i < 3) (hj : j < 3) : (w.setNow d i).copy j = w.copy j := by
  rcases lt3 hi with rfl | rfl | rfl <;> rcases lt3 hj with rfl | rfl | rfl <;> rfl
theorem ep_setNow (w : Wd) (d : Dv) {i j : Nat} (hi : i < 3) (hj : j < 3) : (w.setNow d i).ep j = w.ep j := by
  rcases lt3 hi with rfl | rfl | rfl <;> rcases lt3 hj with rfl | rfl | rfl <;> rfl
theorem now_setCopy (w : Wd) (d : Dv) {i j : Nat} (hi : i < 3) (hj : j < 3) : (w.setCopy d i).now j = w.now j := by
  rcases lt3 hi with rfl | rfl | rfl <;> rcases lt3 hj with rfl | rfl | rfl <;> rfl
theorem copy_setCopy (w : Wd) (d : Dv) {i j : Nat} (hi : i < 3) (hj : j < 3) : (w.setCopy d i).copy j = if j = i then d else w.copy j := by
  rcases lt3 hi with rfl | rfl | rfl <;> rcases lt3 hj with rfl | rfl | rfl <;> rfl
theorem ep_setCopy (w : Wd) (d : Dv) {i j : Nat} (hi : i < 3) (hj : j < 3) : (w.setCopy d i).ep j = w.ep j := by
  rcases lt3 hi with rfl | rfl | rfl <;> rcases lt3 hj with rfl | rfl | rfl <;> rfl
theorem now_setEp (w : Wd) (n : Int) {i j : Nat} (hi : i < 3) (hj : j < 3) : (w.setEp n i).now j = w.now j := by
  rcases lt3 hi with rfl | rfl | rfl <;> rcases lt3 hj with rfl | rfl | rfl <;> rfl
theorem copy_setEp (w : Wd) (n : Int) {i j : Nat} (hi : i < 3) (hj : j < 3) : (w.setEp n i).copy j = w.copy j := by
  rcases lt3 hi with rfl | rfl | rfl <;> rcases lt3 hj with rfl | rfl | rfl <;> rfl
theorem ep_setEp (w : Wd) (n : Int) {i j : Nat} (hi : i < 3) (hj : j < 3) : (w.setEp n i).ep j = if j = i then n else w.ep j := by
  rcases lt3 hi with rfl | rfl | rfl <;> rcases lt3 hj with rfl | rfl | rfl <;> rfl
theorem nodup_len : ∀ (l M : List De), l.Pairwise (· ≠ ·) → (∀ x ∈ l, x ∈ M) → l.length ≤ M.length
  | [], _, _, _ => Nat.zero_le _
  | x :: l, M, hp, hs => by
    have hp' := List.pairwise_cons.1 hp
    have h1 := nodup_len l (M.erase x) hp'.2 fun y hy => (List.mem_erase_of_ne (hp'.1 y hy).symm).2 (hs y (by simp [hy]))
    have h2 := List.length_erase_of_mem (hs x (by simp))
    have h3 := List.length_pos_of_mem (hs x (by simp))
    rw [List.length_cons]; omega
theorem SortedD.ne {l : List De} (h : SortedD l) : l.Pairwise (· ≠ ·) := h.imp fun {a b} hab e => by subst e; rw [lessD_irrefl] at hab; cases hab
theorem SortedD.len {l M : List De} (h : SortedD l) (hs : ∀ x ∈ l, x ∈ M) : l.length ≤ M.length := nodup_len l M h.ne hs
/-- What holds of a world after n operations; M: all edits that were made. -/
structure Inv (n : Nat) (M : List De) (w : Wd) : Prop where
  id : ∀ i : Nat, i < 3 → (w.now i).id = 2 + 3 * (i : Int) ∧ (w.copy i).id = 2 + 3 * (i : Int)
  ep : ∀ i : Nat, i < 3 → (w.now i).epoch = w.ep i ∧ (w.copy i).epoch ≤ w.ep i ∧ 0 ≤ w.ep i ∧ w.ep i ≤ n
  val : ∀ i : Nat, i < 3 → validV (w.now i) = true ∧ validV (w.copy i) = true
  nxt : ∀ i : Nat, i < 3 → (w.now i).next ≤ 1 + n ∧ (w.copy i).next ≤ 1 + n
  sub : ∀ i : Nat, i < 3 → (∀ e ∈ (w.now i).edits, e ∈ M) ∧ ∀ e ∈ (w.copy i).edits, e ∈ M
  len : M.length ≤ n
  key : ∀ a ∈ M, ∀ b ∈ M, keyEq a b = true → a = b
  vd : ∀ a ∈ M, validD a = true
  fresh : ∀ i : Nat, i < 3 → ∀ m ∈ M, m.device = 2 + 3 * (i : Int) → m.seq % 64 ≤ w.ep i ∧ (m.seq % 64 = w.ep i → m.seq / 64 < (w.now i).next)
theorem inv_start : Inv 0 [] startW := by
  have hd : ∀ i : Nat, i < 3 → startW.now i = ⟨2 + 3 * (i : Int), 0, 1, []⟩ ∧ startW.copy i = ⟨2 + 3 * (i : Int), 0, 1, []⟩ ∧ startW.ep i = 0 := fun i hi => by
    rcases lt3 hi with rfl | rfl | rfl <;> exact ⟨rfl, rfl, rfl⟩
  refine ⟨fun i hi => ?_, fun i hi => ?_, fun i hi => ?_, fun i hi => ?_, fun i hi => ?_, Nat.le_refl _, by simp, by simp, by simp⟩
  all_goals (obtain ⟨h1, h2, h3⟩ := hd i hi)
  · rw [h1, h2]; exact ⟨rfl, rfl⟩
  · rw [h1, h2, h3]; exact ⟨rfl, Int.le_refl _, Int.le_refl _, Int.le_refl _⟩
  · rcases lt3 hi with rfl | rfl | rfl <;> exact ⟨by decide, by decide⟩
  · rw [h1, h2]; exact ⟨by simp, by simp⟩
  · rw [h1, h2]; exact ⟨by simp, by simp⟩
/-! Single operations -/
theorem agree_of {a b M : List De} (ha : ∀ e ∈ a, e ∈ M) (hb : ∀ e ∈ b, e ∈ M) (hk : ∀ a ∈ M, ∀ b ∈ M, keyEq a b = true → a = b) : agreeD a b = true := by
  unfold agreeD
  rw [List.all_eq_true]
  intro x hx
  rw [List.all_eq_true]
  intro y hy
  cases h : keyEq x y with
  | false => rfl
  | true => simp [hk x (ha x hx) y (hb y hy) h]
theorem union_mem {a b M : List De} (hsa : SortedD a) (hsb : SortedD b) (ha : ∀ e ∈ a, e ∈ M) (hb : ∀ e ∈ b, e ∈ M) (hk : ∀ a ∈ M, ∀ b ∈ M, keyEq a b = true → a = b) (x : De) : x ∈ unionD a b ↔ x ∈ a ∨ x ∈ b := by
  rw [(unionD_spec hsa hsb).2]
  constructor
  · rintro (h | ⟨h, _⟩)
    · exact .inl h
    · exact .inr h
  · rintro (h | h)
    · exact .inl h
    · by_cases hx : x ∈ a
      · exact .inl hx
      · refine .inr ⟨h, fun y hy => ?_⟩
        cases hxy : keyEq x y with
        | false => rfl
        | true => exact absurd (by rw [hk x (hb x h) y (ha y hy) hxy]; exact hy) hx
theorem nextD_bd {n : Int} {l : List De} {B : Int} (hn : n ≤ B) (h : ∀ e ∈ l, e.seq / 64 < B) : nextD n l ≤ B := by
  unfold nextD
  induction l generalizing n with
  | nil => exact hn
  | cons e l ih =>
    rw [List.foldl_cons]
    have := h e (by simp)
    exact ih (by omega) fun x hx => h x (by simp [hx])
theorem nextD_mem {n : Int} {l : List De} {e : De} (h : e ∈ l) : e.seq / 64 < nextD n l := by
  unfold nextD
  induction l generalizing n with
  | nil => simp at h
  | cons x l ih =>
    rw [List.foldl_cons]
    rcases List.mem_cons.1 h with rfl | h
    · have := nextD_le (max n (e.seq / 64 + 1)) l
      unfold nextD at this
      omega
    · exact ih h
theorem validV_of {d : Dv} (h1 : 0 ≤ d.id ∧ d.id ≤ 15 ∧ 0 ≤ d.epoch ∧ d.epoch ≤ 63 ∧ 1 ≤ d.next ∧ d.next ≤ 17179869184 ∧ d.edits.length ≤ 4096) (h2 : ∀ e ∈ d.edits, validD e = true ∧ e.seq / 64 < d.next) (h3 : SortedD d.edits) : validV d = true := by
  unfold validV hdrOK
  simp only [Bool.and_eq_true, decide_eq_true_eq, List.all_eq_true]
  exact ⟨⟨h1, fun e he => (okEd_iff _ _).2 (h2 e he)⟩, h3⟩
/-- Hearing from another one succeeds. -/
theorem sync_ok {d o : Dv} {M : List De} {B : Int} (hv : validV d = true) (hvo : validV o = true) (hd : ∀ e ∈ d.edits, e ∈ M) (ho : ∀ e ∈ o.edits, e ∈ M) (hk : ∀ a ∈ M, ∀ b ∈ M, keyEq a b = true → a = b) (hM : M.length ≤ 4096) (hB : B ≤ 17179869184) (hdn : d.next ≤ B) (hon : o.next ≤ B) :
    ∃ r, dvSync d o = .ok r ∧ r = ⟨d.id, d.epoch, nextD d.next (freshD d.edits o.edits), unionD d.edits o.edits⟩ ∧ validV r = true ∧ d.next ≤ r.next ∧ r.next ≤ B ∧ ∀ e, e ∈ r.edits ↔ e ∈ d.edits ∨ e ∈ o.edits := by
  have h1 := validV_hdr hv
  have h2 := validV_hdr hvo
  have h3 := validV_all hv
  have h4 := validV_all hvo
  have hu := (unionD_spec h3.2 h4.2).1
  have hm := union_mem h3.2 h4.2 hd ho hk
  have hul : (unionD d.edits o.edits).length ≤ M.length := hu.len fun x hx => by
    rcases (hm x).1 hx with h | h
    · exact hd x h
    · exact ho x h
  have hnl := nextD_le d.next (freshD d.edits o.edits)
  have hnb : nextD d.next (freshD d.edits o.edits) ≤ B := nextD_bd hdn fun e he => by
    have := (h4.1 e (List.mem_filter.1 he).1).2
    omega
  refine ⟨_, ?_, rfl, ?_, hnl, hnb, hm⟩
  · unfold dvSync
    rw [if_pos ⟨hv, hvo⟩, if_pos (agree_of hd ho hk), if_neg (by omega)]
  · refine validV_of ⟨h1.1, h1.2.1, h1.2.2.1, h1.2.2.2.1, by show 1 ≤ nextD _ _; omega, by show nextD _ _ ≤ _; omega, by show (unionD _ _).length ≤ _; omega⟩ (fun e he => ?_) hu
    show validD e = true ∧ e.seq / 64 < nextD d.next (freshD d.edits o.edits)
    rcases ((unionD_spec h3.2 h4.2).2 e).1 he with h | ⟨h, hn⟩
    · have := h3.1 e h
      exact ⟨this.1, by omega⟩
    · refine ⟨(h4.1 e h).1, nextD_mem ?_⟩
      unfold freshD
      rw [List.mem_filter]
      refine ⟨h, ?_⟩
      have : d.edits.any (keyEq e) = false := List.any_eq_false.2 fun y hy => by rw [hn y hy]; simp
      rw [this]; rfl
/-- Making an edit succeeds. -/
theorem add_ok {d : Dv} (hv : validV d = true) (e : Ed) (hn : d.next ≤ 10000000) (hl : d.edits.length < 4096) :
    ∃ r, dvAdd d (madeE e) = .ok r ∧ r = ⟨d.id, d.epoch, d.next + 1, d.edits ++ [stampD d (madeE e)]⟩ ∧ validV r = true ∧ validD (stampD d (madeE e)) = true := by
  have h1 := validV_hdr hv
  have h3 := validV_all hv
  have hme := madeE_valid e
  have hb : validD (bareD (madeE e)) = true := by
    revert hme
    unfold validD validE betw bareD De.ed kindE
    simp only [Bool.and_eq_true, decide_eq_true_eq]
    intro h
    exact ⟨⟨⟨⟨by omega, by omega⟩, by omega⟩, h.1.2⟩, h.2⟩
  have hs : validD (stampD d (madeE e)) = true := by
    revert hme
    unfold validD validE betw stampD De.ed kindE
    simp only [Bool.and_eq_true, decide_eq_true_eq]
    intro h
    exact ⟨⟨⟨⟨by omega, by omega⟩, by omega⟩, h.1.2⟩, h.2⟩
  refine ⟨_, ?_, rfl, ?_, hs⟩
  · unfold dvAdd
    rw [if_pos ⟨hv, hb⟩, if_neg (by omega)]
  · refine validV_of ⟨h1.1, h1.2.1, h1.2.2.1, h1.2.2.2.1, by show 1 ≤ d.next + 1; omega, by show d.next + 1 ≤ _; omega, by show (d.edits ++ [_]).length ≤ _; simp; omega⟩ (fun x hx => ?_) ?_
    · show validD x = true ∧ x.seq / 64 < d.next + 1
      rcases List.mem_append.1 hx with hx | hx
      · have := h3.1 x hx
        exact ⟨this.1, by omega⟩
      · simp only [List.mem_cons, List.not_mem_nil, or_false] at hx
        subst hx
        refine ⟨hs, ?_⟩
        show (64 * d.next + d.epoch) / 64 < d.next + 1
        omega
    · refine List.pairwise_append.2 ⟨h3.2, List.pairwise_singleton _ _, fun x hx y hy => ?_⟩
      simp only [List.mem_cons, List.not_mem_nil, or_false] at hy
      subst hy
      have := (h3.1 x hx).2
      rw [lessD_iff]
      left
      show x.seq < 64 * d.next + d.epoch
      omega
theorem restore_ok {d : Dv} (hv : validV d = true) {ep : Int} (h1 : d.epoch < ep) (h2 : ep ≤ 63) : dvRestore d ep = .ok ⟨d.id, ep, d.next, d.edits⟩ ∧ validV ⟨d.id, ep, d.next, d.edits⟩ = true := by
  have h3 := validV_hdr hv
  have h4 := validV_all hv
  refine ⟨?_, validV_of ⟨h3.1, h3.2.1, by show 0 ≤ ep; omega, h2, h3.2.2.2.2.1, h3.2.2.2.2.2.1, h3.2.2.2.2.2.2⟩ h4.1 h4.2⟩
  unfold dvRestore
  rw [if_pos ⟨hv, by omega, h2⟩, if_neg (by omega)]
end Go.Proofs.YtojckjngjfgfdaaGreat
namespace Go.Proofs.YtojckjngjfgfdaaGreat
set_option linter.unusedSimpArgs false
set_option linter.unusedVariables false
open Go.Proofs.YtojckjngjfgfdaaGreat.Vc
/-! ### One operation: plain -/
theorem Opn.i_lt (o : Opn) : o.i < 3 := by unfold Opn.i; omega
theorem Opn.k_lt (o : Opn) : o.k < 3 := by unfold Opn.k; omega
theorem Inv.shape {n : Nat} {M : List De} {w : Wd} (h : Inv n M w) {i : Nat} (hi : i < 3) : (w.now i).edits.length ≤ n :=
  Nat.le_trans ((validV_all (h.val i hi).1).2.len (h.sub i hi).1) h.len
/-- An edit that is made now has a key of its own. -/
theorem Inv.newKey {n : Nat} {M : List De} {w : Wd} (h : Inv n M w) (hn : n ≤ 40) {i : Nat} (hi : i < 3) (e : De) : ∀ m ∈ M, keyEq m (stampD (w.now i) e) = false := fun m hm => by
  rw [← Bool.not_eq_true, keyEq_iff]
  show ¬ (m.device = (w.now i).id ∧ m.seq = 64 * (w.now i).next + (w.now i).epoch)
  rintro ⟨h2, h1⟩
  rw [(h.id i hi).1] at h2
  have h3 := h.fresh i hi m hm h2
  have h4 := h.ep i hi
  omega
theorem run_add {n : Nat} {M : List De} {w : Wd} (h : Inv n M w) (hn : n ≤ 40) {o : Opn} (hk : ¬ o.kind % 6 = 3) (hk2 : ¬ o.kind % 6 = 4) (hk3 : ¬ o.kind % 6 = 5) :
    runW w o = w.setNow ⟨(w.now o.i).id, (w.now o.i).epoch, (w.now o.i).next + 1, (w.now o.i).edits ++ [stampD (w.now o.i) (madeE o.ed)]⟩ o.i ∧ Inv (n + 1) (M ++ [stampD (w.now o.i) (madeE o.ed)]) (runW w o) := by
  have hi := o.i_lt
  have hl := h.shape hi
  have hx := h.nxt o.i hi
  obtain ⟨r, e1, e2, e3, e4⟩ := add_ok (h.val o.i hi).1 o.ed (by omega) (by omega)
  have e : runW w o = w.setNow r o.i := by
    unfold runW
    rw [if_neg hk, if_neg hk2, if_neg hk3, e1]
    rfl
  rw [e]
  have hr : r.id = (w.now o.i).id ∧ r.epoch = (w.now o.i).epoch ∧ r.next = (w.now o.i).next + 1 ∧ r.edits = (w.now o.i).edits ++ [stampD (w.now o.i) (madeE o.ed)] := by rw [e2]; exact ⟨rfl, rfl, rfl, rfl⟩
  refine ⟨by rw [e2], ?_⟩
  have hnk := h.newKey hn hi (madeE o.ed)
  have hst : (stampD (w.now o.i) (madeE o.ed)).device = 2 + 3 * (o.i : Int) ∧ (stampD (w.now o.i) (madeE o.ed)).seq = 64 * (w.now o.i).next + (w.now o.i).epoch := ⟨(h.id o.i hi).1, rfl⟩
  generalize hg : stampD (w.now o.i) (madeE o.ed) = e0 at *
  refine ⟨fun j hj => ?_, fun j hj => ?_, fun j hj => ?_, fun j hj => ?_, fun j hj => ?_, by simp only [List.length_append, List.length_cons, List.length_nil]; have := h.len; omega, ?_, ?_, fun j hj => ?_⟩
  · rw [now_setNow w r hi hj, copy_setNow w r hi hj]
    split
    · subst_vars; exact ⟨by rw [hr.1]; exact (h.id _ hj).1, (h.id _ hj).2⟩
    · exact h.id _ hj
  · rw [now_setNow w r hi hj, copy_setNow w r hi hj, ep_setNow w r hi hj]
    have := h.ep j hj
    split
    · subst_vars; rw [hr.2.1]; exact ⟨this.1, this.2.1, this.2.2.1, by omega⟩
    · exact ⟨this.1, this.2.1, this.2.2.1, by omega⟩
  · rw [now_setNow w r hi hj, copy_setNow w r hi hj]
    split
    · exact ⟨e3, (h.val j hj).2⟩
    · exact h.val j hj
  · rw [now_setNow w r hi hj, copy_setNow w r hi hj]
    have := h.nxt j hj
    split
    · subst_vars; rw [hr.2.2.1]; exact ⟨by omega, by omega⟩
    · exact ⟨by omega, by omega⟩
  · rw [now_setNow w r hi hj, copy_setNow w r hi hj]
    have := h.sub j hj
    refine ⟨?_, fun x hx => List.mem_append.2 (.inl (this.2 x hx))⟩
    split
    · subst_vars
      rw [hr.2.2.2]
      intro x hx
      rcases List.mem_append.1 hx with hx | hx
      · exact List.mem_append.2 (.inl (this.1 x hx))
      · exact List.mem_append.2 (.inr hx)
    · exact fun x hx => List.mem_append.2 (.inl (this.1 x hx))
  · intro a ha b hb hab
    rcases List.mem_append.1 ha with ha | ha <;> rcases List.mem_append.1 hb with hb | hb
    · exact h.key a ha b hb hab
    · simp only [List.mem_cons, List.not_mem_nil, or_false] at hb
      rw [hb, hnk a ha] at hab; cases hab
    · simp only [List.mem_cons, List.not_mem_nil, or_false] at ha
      rw [ha, keyEq_symm, hnk b hb] at hab; cases hab
    · simp only [List.mem_cons, List.not_mem_nil, or_false] at ha hb
      rw [ha, hb]
  · intro a ha
    rcases List.mem_append.1 ha with ha | ha
    · exact h.vd a ha
    · simp only [List.mem_cons, List.not_mem_nil, or_false] at ha
      rw [ha]; exact e4
  · rw [now_setNow w r hi hj, ep_setNow w r hi hj]
    intro m hm hmd
    have hep := h.ep j hj
    rcases List.mem_append.1 hm with hm | hm
    · have := h.fresh j hj m hm hmd
      refine ⟨this.1, fun h5 => ?_⟩
      have := this.2 h5
      split
      · subst_vars; rw [hr.2.2.1]; omega
      · exact this
    · simp only [List.mem_cons, List.not_mem_nil, or_false] at hm
      subst hm
      have hji : j = o.i := by omega
      subst hji
      rw [if_pos rfl, hr.2.2.1]
      omega
theorem run_sync {n : Nat} {M : List De} {w : Wd} (h : Inv n M w) (hn : n ≤ 40) {o : Opn} (hk : o.kind % 6 = 3) :
    ∃ r, runW w o = w.setNow r o.i ∧ Inv (n + 1) M (runW w o) ∧ (∀ e, e ∈ r.edits ↔ e ∈ (w.now o.i).edits ∨ e ∈ (w.now o.k).edits) := by
  have hi := o.i_lt
  have hk' := o.k_lt
  have hl := h.len
  obtain ⟨r, e1, e2, e3, e4, e5, e6⟩ := sync_ok (B := 1 + n) (h.val o.i hi).1 (h.val o.k hk').1 (h.sub o.i hi).1 (h.sub o.k hk').1 h.key (by omega) (by omega) (h.nxt o.i hi).1 (h.nxt o.k hk').1
  have e : runW w o = w.setNow r o.i := by
    unfold runW
    rw [if_pos hk, e1]
    rfl
  rw [e]
  have hr : r.id = (w.now o.i).id ∧ r.epoch = (w.now o.i).epoch := by rw [e2]; exact ⟨rfl, rfl⟩
  refine ⟨r, rfl, ?_, e6⟩
  refine ⟨fun j hj => ?_, fun j hj => ?_, fun j hj => ?_, fun j hj => ?_, fun j hj => ?_, by omega, h.key, h.vd, fun j hj => ?_⟩
  · rw [now_setNow w r hi hj, copy_setNow w r hi hj]
    split
    · subst_vars; exact ⟨by rw [hr.1]; exact (h.id _ hj).1, (h.id _ hj).2⟩
    · exact h.id _ hj
  · rw [now_setNow w r hi hj, copy_setNow w r hi hj, ep_setNow w r hi hj]
    have := h.ep j hj
    split
    · subst_vars; rw [hr.2]; exact ⟨this.1, this.2.1, this.2.2.1, by omega⟩
    · exact ⟨this.1, this.2.1, this.2.2.1, by omega⟩
  · rw [now_setNow w r hi hj, copy_setNow w r hi hj]
    split
    · exact ⟨e3, (h.val j hj).2⟩
    · exact h.val j hj
  · rw [now_setNow w r hi hj, copy_setNow w r hi hj]
    have := h.nxt j hj
    split
    · exact ⟨by omega, by omega⟩
    · exact ⟨by omega, by omega⟩
  · rw [now_setNow w r hi hj, copy_setNow w r hi hj]
    have := h.sub j hj
    refine ⟨?_, this.2⟩
    split
    · intro x hx
      rcases (e6 x).1 hx with hx | hx
      · exact (h.sub _ hi).1 x hx
      · exact (h.sub _ hk').1 x hx
    · exact this.1
  · rw [now_setNow w r hi hj, ep_setNow w r hi hj]
    intro m hm hmd
    have := h.fresh j hj m hm hmd
    refine ⟨this.1, fun h5 => ?_⟩
    have := this.2 h5
    split
    · subst_vars; omega
    · exact this
theorem run_copy {n : Nat} {M : List De} {w : Wd} (h : Inv n M w) {o : Opn} (hk : o.kind % 6 = 4) : runW w o = w.setCopy (w.now o.i) o.i ∧ Inv (n + 1) M (runW w o) := by
  have hi := o.i_lt
  have e : runW w o = w.setCopy (w.now o.i) o.i := by
    unfold runW
    rw [if_neg (by omega), if_pos hk]
  rw [e]
  refine ⟨rfl, ?_⟩
  have hl := h.len
  refine ⟨fun j hj => ?_, fun j hj => ?_, fun j hj => ?_, fun j hj => ?_, fun j hj => ?_, by omega, h.key, h.vd, fun j hj => ?_⟩
  · rw [now_setCopy w _ hi hj, copy_setCopy w _ hi hj]
    split
    · subst_vars; exact ⟨(h.id _ hj).1, (h.id _ hj).1⟩
    · exact h.id _ hj
  · rw [now_setCopy w _ hi hj, copy_setCopy w _ hi hj, ep_setCopy w _ hi hj]
    have := h.ep j hj
    split
    · subst_vars; exact ⟨this.1, by omega, this.2.2.1, by omega⟩
    · exact ⟨this.1, this.2.1, this.2.2.1, by omega⟩
  · rw [now_setCopy w _ hi hj, copy_setCopy w _ hi hj]
    split
    · subst_vars; exact ⟨(h.val _ hj).1, (h.val _ hj).1⟩
    · exact h.val j hj
  · rw [now_setCopy w _ hi hj, copy_setCopy w _ hi hj]
    have := h.nxt j hj
    split
    · subst_vars; exact ⟨by omega, by omega⟩
    · exact ⟨by omega, by omega⟩
  · rw [now_setCopy w _ hi hj, copy_setCopy w _ hi hj]
    split
    · subst_vars; exact ⟨(h.sub _ hj).1, (h.sub _ hj).1⟩
    · exact h.sub j hj
  · rw [now_setCopy w _ hi hj, ep_setCopy w _ hi hj]
    exact h.fresh j hj
theorem run_restore {n : Nat} {M : List De} {w : Wd} (h : Inv n M w) (hn : n ≤ 40) {o : Opn} (hk : o.kind % 6 = 5) : Inv (n + 1) M (runW w o) := by
  have hi := o.i_lt
  have hep := h.ep o.i hi
  obtain ⟨e1, e2⟩ := restore_ok (h.val o.i hi).2 (ep := w.ep o.i + 1) (by omega) (by omega)
  have e : runW w o = (w.setEp (w.ep o.i + 1) o.i).setNow ⟨(w.copy o.i).id, w.ep o.i + 1, (w.copy o.i).next, (w.copy o.i).edits⟩ o.i := by
    unfold runW
    rw [if_neg (by omega), if_neg (by omega), if_pos hk, e1]
  rw [e]
  have hl := h.len
  refine ⟨fun j hj => ?_, fun j hj => ?_, fun j hj => ?_, fun j hj => ?_, fun j hj => ?_, by omega, h.key, h.vd, fun j hj => ?_⟩
  · rw [now_setNow _ _ hi hj, copy_setNow _ _ hi hj, now_setEp w _ hi hj, copy_setEp w _ hi hj]
    split
    · subst_vars; exact ⟨(h.id _ hj).2, (h.id _ hj).2⟩
    · exact h.id _ hj
  · rw [now_setNow _ _ hi hj, copy_setNow _ _ hi hj, ep_setNow _ _ hi hj, now_setEp w _ hi hj, copy_setEp w _ hi hj, ep_setEp w _ hi hj]
    have := h.ep j hj
    split
    · subst_vars; exact ⟨rfl, by omega, by omega, by omega⟩
    · exact ⟨this.1, this.2.1, this.2.2.1, by omega⟩
  · rw [now_setNow _ _ hi hj, copy_setNow _ _ hi hj, now_setEp w _ hi hj, copy_setEp w _ hi hj]
    split
    · subst_vars; exact ⟨e2, (h.val _ hj).2⟩
    · exact h.val j hj
  · rw [now_setNow _ _ hi hj, copy_setNow _ _ hi hj, now_setEp w _ hi hj, copy_setEp w _ hi hj]
    have := h.nxt j hj
    split
    · subst_vars; exact ⟨by show (w.copy o.i).next ≤ _; omega, by omega⟩
    · exact ⟨by omega, by omega⟩
  · rw [now_setNow _ _ hi hj, copy_setNow _ _ hi hj, now_setEp w _ hi hj, copy_setEp w _ hi hj]
    split
    · subst_vars; exact ⟨(h.sub _ hj).2, (h.sub _ hj).2⟩
    · exact h.sub j hj
  · rw [now_setNow _ _ hi hj, ep_setNow _ _ hi hj, now_setEp w _ hi hj, ep_setEp w _ hi hj]
    intro m hm hmd
    have h5 := h.fresh j hj m hm hmd
    split
    · subst_vars
      exact ⟨by omega, fun h6 => by omega⟩
    · exact h5
theorem inv_run {n : Nat} {M : List De} {w : Wd} (h : Inv n M w) (hn : n ≤ 40) (o : Opn) : ∃ M', Inv (n + 1) M' (runW w o) := by
  by_cases h3 : o.kind % 6 = 3
  · obtain ⟨r, _, h, _⟩ := run_sync h hn h3
    exact ⟨_, h⟩
  by_cases h4 : o.kind % 6 = 4
  · exact ⟨_, (run_copy h h4).2⟩
  by_cases h5 : o.kind % 6 = 5
  · exact ⟨_, run_restore h hn h5⟩
  exact ⟨_, (run_add h hn h3 h4 h5).2⟩
/-- The world after the first 12 operations. -/
def playW (l : List Opn) : Wd := (l.take 12).foldl runW startW
theorem inv_fold : ∀ (l : List Opn) (n : Nat) (M : List De) (w : Wd), Inv n M w → n + l.length ≤ 40 → ∃ M', Inv (n + l.length) M' (l.foldl runW w)
  | [], n, M, w, h, _ => ⟨M, h⟩
  | o :: l, n, M, w, h, hn => by
    rw [List.length_cons] at hn
    obtain ⟨M', h'⟩ := inv_run h (by omega) o
    obtain ⟨M'', h''⟩ := inv_fold l (n + 1) M' (runW w o) h' (by omega)
    exact ⟨M'', by rw [List.length_cons, show n + (l.length + 1) = n + 1 + l.length by omega]; exact h''⟩
theorem inv_play (l : List Opn) : ∃ n M, n ≤ 12 ∧ Inv n M (playW l) := by
  have hl : (l.take 12).length ≤ 12 := by rw [List.length_take]; omega
  obtain ⟨M, h⟩ := inv_fold (l.take 12) 0 [] startW inv_start (by omega)
  exact ⟨_, M, by omega, h⟩
end Go.Proofs.YtojckjngjfgfdaaGreat
namespace Go.Proofs.YtojckjngjfgfdaaGreat
set_option linter.unusedSimpArgs false
set_option linter.unusedVariables false
open Go.Proofs.YtojckjngjfgfdaaGreat.Vc
/-- A slice of operations. -/
def OpC (R : RO) (v : Value) (os : List Opn) : Prop := SlK R v 16 (os.map Opn.cells) ∧ (∀ o ∈ os, o.ok) ∧ os.length ≤ 1099511627776
theorem OpC.mono {R R' : RO} {v : Value} {os : List Opn} (h : OpC R v os) (hle : RO.le R R') : OpC R' v os := ⟨SlK.mono h.1 hle, h.2⟩
theorem OpC.form {R : RO} {v : Value} {os : List Opn} (h : OpC R v os) : ∃ a cap, v = .slice a os.length cap ∧ os.length ≤ cap ∧ ∀ i (hi : i < os.length), ∃ ad, a = some ad ∧ ∀ j u, ((os[i]).cells)[j]? = some u → R ((ad.add (i * 16)).add j) u := by
  obtain ⟨a, cap, rfl, hc, hf⟩ := SlK.form h.1
  rw [List.length_map] at hc
  refine ⟨a, cap, by rw [List.length_map], hc, fun i hi => ?_⟩
  obtain ⟨_, ad, ha, hR⟩ := hf i (by rw [List.length_map]; exact hi)
  rw [List.getElem_map] at hR
  exact ⟨ad, ha, hR⟩
/-- The cells of a box that holds a value. -/
def boxc (l : List Value) : List SV := l.map .val
def zeroD : List Value := [.int .i64 0, .int .i64 0, .int .i64 0, .slice none 0 0]
def zeroWd : List Value := [.int .i64 0, .int .i64 0, .int .i64 0, .slice none 0 0, .int .i64 0, .int .i64 0, .int .i64 0, .slice none 0 0, .int .i64 0, .int .i64 0, .int .i64 0, .slice none 0 0, .int .i64 0, .int .i64 0, .int .i64 0, .slice none 0 0, .int .i64 0, .int .i64 0, .int .i64 0, .slice none 0 0, .int .i64 0, .int .i64 0, .int .i64 0, .slice none 0 0, .int .i64 0, .int .i64 0, .int .i64 0]
theorem boxc_ok (l : List Value) (n : Nat) : (boxc l).all (SV.ok n) = true := by
  unfold boxc
  rw [List.all_map, List.all_eq_true]
  intro _ _
  rfl
theorem playW_snoc (os : List Opn) (i : Nat) (hi : i < os.length) : (os.take (i + 1)).foldl runW startW = runW ((os.take i).foldl runW startW) os[i] := by
  rw [List.take_succ_eq_append_getElem hi, List.foldl_append]; rfl
theorem inv_take (os : List Opn) (i : Nat) (hi : i ≤ 40) : ∃ n M, n ≤ 40 ∧ Inv n M ((os.take i).foldl runW startW) := by
  have hl : (os.take i).length ≤ 40 := by rw [List.length_take]; omega
  obtain ⟨M, h⟩ := inv_fold (os.take i) 0 [] startW inv_start (by omega)
  exact ⟨_, M, by omega, h⟩
theorem Inv.eps {n : Nat} {M : List De} {w : Wd} (h : Inv n M w) (hn : n ≤ 40) : ∀ i, 0 ≤ w.ep i ∧ w.ep i ≤ 1000000 := fun i => by
  have h0 := h.ep 0 (by omega)
  have h1 := h.ep 1 (by omega)
  have h2 := h.ep 2 (by omega)
  match i with
  | 0 => omega
  | 1 => omega
  | i + 2 =>
    show 0 ≤ w.e2 ∧ w.e2 ≤ 1000000
    have : w.ep 2 = w.e2 := rfl
    omega
set_option maxHeartbeats 1000000 in
theorem ePlayed (os : List Opn) (v : Value) (R : RO) (h : OpC R v os) : CallsR Tryz.prog 27 [v] R fun R' u => WdV R' u (playW os) := by
  obtain ⟨a, cap, rfl, hc, hf⟩ := h.form
  obtain ⟨_, hok, hl⟩ := h
  refine callsT mix Tryz.func27 comp27 (by simp [Tryz.ntmps27]) ?_; simp only [go_sem, ↓reduceIte, Nat.reduceEqDiff, Nat.reduceAdd, Nat.reduceMul, Nat.reduceLeDiff, Nat.reduceLT, Nat.reduceBNe, reduceCtorEq, vc27, rs27]
  refine vcall (eStart R) ?_
  rintro R1 u hle1 ⟨x0, x1, x2, y0, y1, y2, rfl, h0, h1, h2, h3, h4, h5⟩
  obtain ⟨a0, c0, rfl, _⟩ := h0.form
  obtain ⟨a1, c1, rfl, _⟩ := h1.form
  obtain ⟨a2, c2, rfl, _⟩ := h2.form
  obtain ⟨a3, c3, rfl, _⟩ := h3.form
  obtain ⟨a4, c4, rfl, _⟩ := h4.form
  obtain ⟨a5, c5, rfl, _⟩ := h5.form
  simp only [wdCells]
  try simp only [go_sem, ↓reduceIte, Nat.reduceEqDiff, Nat.reduceAdd, Nat.reduceMul, Nat.reduceLeDiff, Nat.reduceLT, Nat.reduceBNe, reduceCtorEq]
  refine vcLoopR (Nat × (List Value)) (fun x => [(4, .val (.int .i64 x.1)), (0, .val (.slice a os.length cap)), (2, .loc 0 0), (3, .loc 1 0)])
    (fun x => [.box (boxc zeroWd), .box (boxc x.2)])
    (fun x R => x.1 ≤ os.length ∧ x.1 ≤ 12 ∧ WdV R (.agg x.2.toArray) ((os.take x.1).foldl runW startW)) (fun x => os.length - x.1) (0, wdCells startW (.slice a0 0 c0) (.slice a1 0 c1) (.slice a2 0 c2) (.slice a3 0 c3) (.slice a4 0 c4) (.slice a5 0 c5)) [] ?_ ?_ ?_ ?_
  · (try simp only [go_sem, ↓reduceIte, Nat.reduceEqDiff, Nat.reduceAdd, Nat.reduceMul, Nat.reduceLeDiff, Nat.reduceLT, Nat.reduceBNe, reduceCtorEq]) <;> (repeat' (first | rfl | trivial | constructor | (intro h; exact absurd rfl h)))
  · try simp only [go_sem, ↓reduceIte, Nat.reduceEqDiff, Nat.reduceAdd, Nat.reduceMul, Nat.reduceLeDiff, Nat.reduceLT, Nat.reduceBNe, reduceCtorEq]
    exact ⟨boxc_ok _ _, boxc_ok _ _⟩
  · exact ⟨Nat.zero_le _, Nat.zero_le _, _, _, _, _, _, _, rfl, h0, h1, h2, h3, h4, h5⟩
  rintro ⟨i, xs⟩ env R2 hle2 hE ⟨hi, hi12, hW⟩
  simp only [] at hW
  obtain ⟨n, M, hn, hI⟩ := inv_take os i (by omega)
  have hend : ¬ (i < os.length ∧ i < 12) → (os.take i).foldl runW startW = playW os := fun hn => by
    unfold playW
    by_cases h12 : i = 12
    · rw [h12]
    · rw [List.take_of_length_le (by omega), List.take_of_length_le (by omega)]
  obtain ⟨w, hw⟩ : ∃ w, w = (os.take i).foldl runW startW := ⟨_, rfl⟩
  rw [← hw] at hW hend hI
  obtain ⟨x0, x1, x2, y0, y1, y2, e, h0, h1, h2, h3, h4, h5⟩ := hW
  have e := congrArg Array.toList (Value.agg.inj e)
  rw [List.toList_toArray, List.toList_toArray] at e
  subst e
  simp only [wdCells, zeroWd, boxc, List.map_cons, List.map_nil] at hE ⊢
  obtain ⟨a0, c0, rfl, _⟩ := h0.form
  obtain ⟨a1, c1, rfl, _⟩ := h1.form
  obtain ⟨a2, c2, rfl, _⟩ := h2.form
  obtain ⟨a3, c3, rfl, _⟩ := h3.form
  obtain ⟨a4, c4, rfl, _⟩ := h4.form
  obtain ⟨a5, c5, rfl, _⟩ := h5.form
  (simp only [go_sem] at hE; obtain ⟨e4, e0, e2, e3⟩ := hE; simp only [go_sem, ↓reduceIte, Nat.reduceEqDiff, Nat.reduceAdd, Nat.reduceMul, Nat.reduceLeDiff, Nat.reduceLT, Nat.reduceBNe, reduceCtorEq, e4, e0, e2, e3]; dsimp only at *)
  have hret : ¬ (i < os.length ∧ i < 12) → WdV R2 (.agg (wdCells w (.slice a0 w.n0.edits.length c0) (.slice a1 w.n1.edits.length c1) (.slice a2 w.n2.edits.length c2) (.slice a3 w.c0.edits.length c3) (.slice a4 w.c1.edits.length c4) (.slice a5 w.c2.edits.length c5)).toArray) (playW os) := fun hx => by
    rw [← hend hx]
    exact ⟨_, _, _, _, _, _, rfl, h0, h1, h2, h3, h4, h5⟩
  refine ⟨fun hlt => ⟨fun hlt2 => ?_, fun hge => hret (by omega)⟩, fun hge => hret (by omega)⟩
  have hlt' : i < os.length := by omega
  obtain ⟨ad, had, hR⟩ := hf i hlt'
  have hM := fun v h => eRun w os[i] v R2 h (hok _ (List.getElem_mem hlt')) (hI.eps hn)
  have hM := hM _ ⟨_, _, _, _, _, _, rfl, h0, h1, h2, h3, h4, h5⟩
  simp only [wdCells] at hM
  refine ⟨by omega, vat ad had ?_⟩
  try simp only [go_sem, ↓reduceIte, Nat.reduceEqDiff, Nat.reduceAdd, Nat.reduceMul, Nat.reduceLeDiff, Nat.reduceLT, Nat.reduceBNe, reduceCtorEq]
  refine vloadn (os[i]).cells rfl (fun j u hj => hle2 _ _ (hle1 _ _ (hR j u hj))) ?_
  simp only [go_sem, ↓reduceIte, Nat.reduceEqDiff, Nat.reduceAdd, Nat.reduceMul, Nat.reduceLeDiff, Nat.reduceLT, Nat.reduceBNe, reduceCtorEq, Ed.cells, e4, e0, e2, e3]
  refine vcall hM ?_
  rintro R3 u hle3 ⟨z0, z1, z2, z3, z4, z5, rfl, g0, g1, g2, g3, g4, g5⟩
  obtain ⟨a0, c0, rfl, _⟩ := g0.form
  obtain ⟨a1, c1, rfl, _⟩ := g1.form
  obtain ⟨a2, c2, rfl, _⟩ := g2.form
  obtain ⟨a3, c3, rfl, _⟩ := g3.form
  obtain ⟨a4, c4, rfl, _⟩ := g4.form
  obtain ⟨a5, c5, rfl, _⟩ := g5.form
  simp only [wdCells]
  simp only [go_sem, ↓reduceIte, Nat.reduceEqDiff, Nat.reduceAdd, Nat.reduceMul, Nat.reduceLeDiff, Nat.reduceLT, Nat.reduceBNe, reduceCtorEq, e4, e0, e2, e3]
  refine ⟨_, W.in64 (by omega), (i + 1, wdCells (runW w os[i]) (.slice a0 (runW w os[i]).n0.edits.length c0) (.slice a1 (runW w os[i]).n1.edits.length c1) (.slice a2 (runW w os[i]).n2.edits.length c2) (.slice a3 (runW w os[i]).c0.edits.length c3) (.slice a4 (runW w os[i]).c1.edits.length c4) (.slice a5 (runW w os[i]).c2.edits.length c5)), [], ?_⟩
  try simp only [go_sem, ↓reduceIte, Nat.reduceEqDiff, Nat.reduceAdd, Nat.reduceMul, Nat.reduceLeDiff, Nat.reduceLT, Nat.reduceBNe, reduceCtorEq]
  refine ⟨by omega, ⟨rfl, rfl⟩, ⟨boxc_ok _ _, by decide⟩, by omega, by omega, ?_⟩
  rw [playW_snoc os i hlt', ← hw]
  exact ⟨_, _, _, _, _, _, rfl, g0, g1, g2, g3, g4, g5⟩
end Go.Proofs.YtojckjngjfgfdaaGreat
namespace Go.Proofs.YtojckjngjfgfdaaGreat
set_option linter.unusedSimpArgs false
set_option linter.unusedVariables false
open Go.Proofs.YtojckjngjfgfdaaGreat.Vc
/-! ### Find, Same, heard -/
def findD (l : List De) (e : De) : Int := match l.findIdx? (keyEq e) with
  | some i => i
  | none => -1
theorem findD_nonneg (l : List De) (e : De) : 0 ≤ findD l e ↔ ∃ x ∈ l, keyEq e x = true := by
  unfold findD
  cases h : l.findIdx? (keyEq e) with
  | none =>
    have := List.findIdx?_eq_none_iff.1 h
    constructor
    · intro h; exact absurd h (by show ¬ (0 : Int) ≤ -1; decide)
    · rintro ⟨x, hx, hk⟩; rw [this x hx] at hk; cases hk
  | some i =>
    obtain ⟨hi, hp, _⟩ := List.findIdx?_eq_some_iff_getElem.1 h
    exact ⟨fun _ => ⟨l[i], List.getElem_mem hi, hp⟩, fun _ => by show (0 : Int) ≤ i; omega⟩
theorem dFind (l : List De) (v : Value) (d : De) (a : Option Addr) (n c : Nat) (R : RO) (h : EdsV R v l) : CallsR Tryz.prog 37 [v, .agg ((d.ed a n c).cells).toArray] R fun _ u => ∃ k, u = .int .i64 k ∧ (0 ≤ k ↔ ∃ x ∈ l, keyEq d x = true) ∧ (k < 0 ∨ ∃ i : Nat, k = i ∧ i < l.length) := by
  obtain ⟨la, lc, rfl, hc, hf⟩ := h.form
  obtain ⟨_, _, _, _, hl⟩ := h
  simp only [Ed.cells, De.ed]
  refine callsT mix Tryz.func37 comp37 (by simp [Tryz.ntmps37]) ?_; simp only [go_sem, ↓reduceIte, Nat.reduceEqDiff, Nat.reduceAdd, Nat.reduceMul, Nat.reduceLeDiff, Nat.reduceLT, Nat.reduceBNe, reduceCtorEq, vc37, rs37]
  refine vcLoop Nat (fun i => [(5, .val (.int .i64 i)), (0, .val (.slice la l.length lc)), (3, .loc 0 0)])
    (fun i => [.box [.val (.int .i64 d.kind), .val (.int .i64 d.day), .val (.int .i64 d.device), .val (.int .i64 d.seq), .val (.int .i64 d.mv.day), .val (.bool d.mv.drop), .val (.int .i64 d.mv.toDay), .val (.int .i64 d.mv.minute), .val (.int .i64 d.mv.length), .val (.int .i64 d.minute), .val (.int .i64 d.length), .val (.slice a n c), .val (.string d.zone)]])
    (fun i _ => i ≤ l.length ∧ ∀ j (hj : j < l.length), j < i → keyEq d l[j] = false) (fun i => l.length - i) 0 ?_ ?_ ?_ ?_
  · (try simp only [go_sem, ↓reduceIte, Nat.reduceEqDiff, Nat.reduceAdd, Nat.reduceMul, Nat.reduceLeDiff, Nat.reduceLT, Nat.reduceBNe, reduceCtorEq]) <;> (repeat' (first | rfl | trivial | constructor | (intro h; exact absurd rfl h)))
  · try simp only [go_sem, ↓reduceIte, Nat.reduceEqDiff, Nat.reduceAdd, Nat.reduceMul, Nat.reduceLeDiff, Nat.reduceLT, Nat.reduceBNe, reduceCtorEq]
  · exact ⟨Nat.zero_le _, fun j _ hj => absurd hj (by omega)⟩
  rintro i env R1 hle1 hE ⟨hi, hno⟩
  (simp only [go_sem] at hE; obtain ⟨e5, e0, e3⟩ := hE; simp only [go_sem, ↓reduceIte, Nat.reduceEqDiff, Nat.reduceAdd, Nat.reduceMul, Nat.reduceLeDiff, Nat.reduceLT, Nat.reduceBNe, reduceCtorEq, e5, e0, e3]; dsimp only at *)
  refine ⟨fun hlt => ?_, fun hge => ?_⟩
  · have hi' : i < l.length := by omega
    obtain ⟨ad, ra, rn, rc, had, hR, _⟩ := hf i hi'
    have hnext : keyEq d l[i] = false → ∀ j (hj : j < l.length), j < i + 1 → keyEq d l[j] = false := fun hk j hj hji => by
      by_cases h : j = i
      · subst h; exact hk
      · exact hno j hj (by omega)
    have hkq : keyEq d l[i] = (decide (l[i].device = d.device) && decide (l[i].seq = d.seq)) := by
      rw [Bool.eq_iff_iff, keyEq_iff]
      simp only [Bool.and_eq_true, decide_eq_true_eq]
      exact ⟨fun h => ⟨h.1.symm, h.2.symm⟩, fun h => ⟨h.1.symm, h.2.symm⟩⟩
    refine ⟨by omega, vat ad had ?_⟩
    try simp only [go_sem, ↓reduceIte, Nat.reduceEqDiff, Nat.reduceAdd, Nat.reduceMul, Nat.reduceLeDiff, Nat.reduceLT, Nat.reduceBNe, reduceCtorEq]
    refine vload (.int .i64 l[i].device) (hle1 _ _ (hR 2 _ rfl)) ?_
    simp only [go_sem, ↓reduceIte, Nat.reduceEqDiff, Nat.reduceAdd, Nat.reduceMul, Nat.reduceLeDiff, Nat.reduceLT, Nat.reduceBNe, reduceCtorEq, e5, e0, e3]
    refine ⟨fun h1 => ⟨by omega, vat ad had ?_⟩, fun h1 => ?_⟩
    · try simp only [go_sem, ↓reduceIte, Nat.reduceEqDiff, Nat.reduceAdd, Nat.reduceMul, Nat.reduceLeDiff, Nat.reduceLT, Nat.reduceBNe, reduceCtorEq]
      refine vload (.int .i64 l[i].seq) (hle1 _ _ (hR 3 _ rfl)) ?_
      simp only [go_sem, ↓reduceIte, Nat.reduceEqDiff, Nat.reduceAdd, Nat.reduceMul, Nat.reduceLeDiff, Nat.reduceLT, Nat.reduceBNe, reduceCtorEq, e5, e0, e3]
      refine ⟨fun h2 => ?_, fun h2 => ?_⟩
      · rw [decide_eq_true h1, decide_eq_true h2] at hkq
        exact ⟨_, rfl, ⟨fun _ => ⟨l[i], List.getElem_mem hi', hkq⟩, fun _ => by omega⟩, .inr ⟨i, rfl, hi'⟩⟩
      · rw [decide_eq_true h1, decide_eq_false h2] at hkq
        refine ⟨_, W.in64 (by omega), i + 1, by omega, ?_, by omega, hnext hkq⟩
        try simp only [go_sem, ↓reduceIte, Nat.reduceEqDiff, Nat.reduceAdd, Nat.reduceMul, Nat.reduceLeDiff, Nat.reduceLT, Nat.reduceBNe, reduceCtorEq]
        rfl
    · rw [decide_eq_false h1] at hkq
      refine ⟨_, W.in64 (by omega), i + 1, by omega, ?_, by omega, hnext hkq⟩
      try simp only [go_sem, ↓reduceIte, Nat.reduceEqDiff, Nat.reduceAdd, Nat.reduceMul, Nat.reduceLeDiff, Nat.reduceLT, Nat.reduceBNe, reduceCtorEq]
      rfl
  · refine ⟨_, rfl, ⟨fun h => by omega, ?_⟩, .inl (by omega)⟩
    rintro ⟨x, hx, hk⟩
    obtain ⟨j, hj, rfl⟩ := List.mem_iff_getElem.1 hx
    rw [hno j hj (by omega)] at hk
    cases hk
end Go.Proofs.YtojckjngjfgfdaaGreat
