import Derived.Test.YtpnhiknfcpkfbaaEy
namespace Go.Proofs.Ytpnhiknfcpkfbaa
set_option linter.unusedSimpArgs false
set_option linter.unusedVariables false
open Go.Proofs.Ytpnhiknfcpkfbaa.Vc
/-- The moves are valid, in increasing order. -/
def movesOK : Option Int → List Mv → Bool
  | _, [] => true
  | p, m :: r => moveOK m && ((match p with | none => true | some d => decide (d < m.day)) && movesOK (some m.day) r)
def sortM (l : List Mv) : List Mv := l.mergeSort fun a b => decide (a.day ≤ b.day)
/-- The number of the part that holds a day. -/
def partAt (days : List Int) (day : Int) : Nat := (days.filter fun f => decide (f ≤ day)).length - 1
def placeD (ps : List (Int × Ti)) (ys : List Mv) : List Pa := ps.mapIdx fun i p => ⟨p.1, p.2, ys.filter fun m => decide (partAt (ps.map (·.1)) m.day = i)⟩
def mergeP (s : Se) (rl : List Nd) (ms : List Mv) (o : List De) : List Pa :=
  placeD (partsD s rl (forceD o) (endE (forceD o))) (sortM (movesD ms (forceD o) (endE (forceD o))))
/-- The cells of a part. -/
def PartV (R : RO) (c : List Value) (p : Pa) : Prop := ∃ rv mv, c = paCells p.day ⟨rv, p.ti.minute, p.ti.length, p.ti.zone, p.ti.gap, p.ti.fold, mv⟩ ∧ RuleV R rv p.ti.rule ∧ EncV Mv.cells 5 R mv p.moves
theorem PartV.mono {R R' : RO} {c : List Value} {p : Pa} (h : PartV R c p) (hle : RO.le R R') : PartV R' c p := by
  obtain ⟨rv, mv, e, h1, h2⟩ := h
  exact ⟨rv, mv, e, h1.mono hle, h2.mono hle⟩
def PartsV (R : RO) (v : Value) (ps : List Pa) : Prop := ∃ cs : List (List Value), SlK R v 8 cs ∧ cs.length = ps.length ∧ (∀ (i : Nat) (c : List Value) (p : Pa), cs[i]? = some c → ps[i]? = some p → PartV R c p) ∧ ps.length ≤ 1000000000
theorem PartsV.mono {R R' : RO} {v : Value} {ps : List Pa} (h : PartsV R v ps) (hle : RO.le R R') : PartsV R' v ps := by
  obtain ⟨cs, h1, h2, h3, h4⟩ := h
  exact ⟨cs, h1.mono hle, h2, fun i c p hi hp => (h3 i c p hi hp).mono hle, h4⟩
/-- What Merge hands back. -/
def MergeV (R : RO) (r : Value) (s : Se) (rl : List Nd) (ms : List Mv) (ds : List De) : Prop := match allD ds with
  | .error k => r = .tuple #[.slice none 0 0, .slice none 0 0, .int .i64 k]
  | .ok o => if s.length < 1 ∨ movesOK none ms = false then r = .tuple #[.slice none 0 0, .slice none 0 0, .int .i64 1]
    else ∃ u v, r = .tuple #[u, v, .int .i64 0] ∧ PartsV R u (mergeP s rl ms o) ∧ EncV Ov.cells 4 R v (recsD o)

/-! ### Plain facts -/
theorem validD_day {d : De} (h : validD d = true) : 0 ≤ d.day := by
  unfold validD validE betw at h
  simp only [Bool.and_eq_true, decide_eq_true_eq] at h
  exact h.1.2.1
theorem distD_valid : ∀ {l out o : List De}, distD out l = some o → (∀ d ∈ out, validD d = true) → ∀ d ∈ o, validD d = true
  | [], out, o, h, hv => by simp only [distD, Option.some.injEq] at h; subst h; exact hv
  | x :: l, out, o, h, hv => by
    rw [distD] at h
    cases hx : addD out x with
    | none => rw [hx] at h; cases h
    | some o' =>
      rw [hx] at h
      refine distD_valid h fun d hd => ?_
      unfold addD at hx
      split at hx
      · rename_i hvx
        split at hx
        · split at hx
          · cases hx; exact hv d hd
          · cases hx
        · cases hx
          rcases List.mem_append.1 hd with hd | hd
          · exact hv d hd
          · simp only [List.mem_cons, List.not_mem_nil, or_false] at hd; subst hd; exact hvx
      · cases hx
theorem allD_ok {l o : List De} (h : allD l = .ok o) : ∃ o', distD [] l = some o' ∧ o = sortD o' := by
  unfold allD at h
  split at h
  · cases h
  · cases hd : distD [] l with
    | none => rw [hd] at h; cases h
    | some o' => rw [hd] at h; simp only [okD, Except.ok.injEq] at h; exact ⟨o', rfl, h.symm⟩
theorem allD_valid {l o : List De} (h : allD l = .ok o) : ∀ d ∈ o, validD d = true := by
  obtain ⟨o', h1, rfl⟩ := allD_ok h
  intro d hd
  exact distD_valid h1 (by simp) d ((sortD_perm o').mem_iff.1 hd)
theorem allD_sorted {l o : List De} (h : allD l = .ok o) : SortedD o := by
  obtain ⟨o', h1, rfl⟩ := allD_ok h
  exact sortD_sorted (distD_keys h1 List.Pairwise.nil)
theorem addD_len {out o : List De} {d : De} (h : addD out d = some o) : o.length ≤ out.length + 1 := by
  unfold addD at h
  split at h
  · split at h
    · split at h
      · cases h; omega
      · cases h
    · cases h; simp
  · cases h
theorem distD_len : ∀ {l out o : List De}, distD out l = some o → o.length ≤ out.length + l.length
  | [], out, o, h => by simp only [distD, Option.some.injEq] at h; subst h; simp
  | x :: l, out, o, h => by
    rw [distD] at h
    cases hx : addD out x with
    | none => rw [hx] at h; cases h
    | some o' => rw [hx] at h; have := distD_len h; have := addD_len hx; simp; omega
theorem allD_len {l o : List De} (h : allD l = .ok o) : o.length ≤ l.length := by
  obtain ⟨o', h1, rfl⟩ := allD_ok h
  have := distD_len h1
  rw [(sortD_perm o').length_eq]; simpa using this
/-- The days on which parts begin are among those that are tried, in their order; the first one is there. -/
theorem partsGo_days (e : Int) (f : Int → Ti) : ∀ (l : List Int) (out : List (Int × Ti)), ∃ r, (partsGo e f l out).map (·.1) = out.map (·.1) ++ r ∧ r.Sublist l
  | [], out => ⟨[], by simp [partsGo], List.Sublist.refl _⟩
  | d :: l, out => by
    rw [partsGo]
    split
    · exact ⟨[d], by simp, by simp⟩
    · have h1 : ∃ r, (partsGo e f l out).map (·.1) = out.map (·.1) ++ r ∧ r.Sublist (d :: l) := by
        obtain ⟨r, h1, h2⟩ := partsGo_days e f l out
        exact ⟨r, h1, h2.cons d⟩
      have h2 : ∃ r, (partsGo e f l (out ++ [(d, f d)])).map (·.1) = out.map (·.1) ++ r ∧ r.Sublist (d :: l) := by
        obtain ⟨r, h1, h2⟩ := partsGo_days e f l (out ++ [(d, f d)])
        exact ⟨d :: r, by rw [h1]; simp, h2.cons_cons d⟩
      split
      · split
        · exact h1
        · exact h2
      · exact h2
theorem partsGo_head (e : Int) (f : Int → Ti) (d : Int) (l : List Int) : ∃ r, (partsGo e f (d :: l) []).map (·.1) = d :: r ∧ r.Sublist l := by
  rw [partsGo]
  split
  · exact ⟨[], by simp, by simp⟩
  · obtain ⟨r, h1, h2⟩ := partsGo_days e f l [(d, f d)]
    exact ⟨r, by simpa using h1, h2⟩
theorem rising_zero {l : List Int} (h : ∀ x ∈ l, 0 ≤ x) : ∃ r, rising (0 :: l) = 0 :: r := by
  have hi := rising_inc (0 :: l)
  cases hr : rising (0 :: l) with
  | nil => have : (0 : Int) ∈ rising (0 :: l) := by rw [mem_rising]; simp
           rw [hr] at this; simp at this
  | cons x r =>
    have h0 : (0 : Int) ∈ rising (0 :: l) := by rw [mem_rising]; simp
    have hx : 0 ≤ x := by
      have : x ∈ rising (0 :: l) := by rw [hr]; simp
      rw [mem_rising] at this
      rcases List.mem_cons.1 this with h' | h'
      · omega
      · exact h x h'
    rw [hr] at h0 hi
    rcases List.mem_cons.1 h0 with h' | h'
    · exact ⟨r, by rw [← h']⟩
    · have := (List.pairwise_cons.1 hi).1 0 h'; omega
theorem partsD_days (s : Se) (rl : List Nd) (ds : List De) (e : Int) (h : ∀ d ∈ ds, 0 ≤ d.day) : Inc ((partsD s rl ds e).map (·.1)) ∧ (∃ r, (partsD s rl ds e).map (·.1) = 0 :: r) ∧ (partsD s rl ds e).length ≤ ds.length + 1 := by
  obtain ⟨r, hr⟩ := rising_zero (l := ds.map (·.day)) (fun x hx => by obtain ⟨d, hd, rfl⟩ := List.mem_map.1 hx; exact h d hd)
  have hi := rising_inc (0 :: ds.map (·.day))
  have hl := rising_len (0 :: ds.map (·.day))
  unfold partsD
  rw [hr] at *
  obtain ⟨q, h1, h2⟩ := partsGo_head e (tiOn s rl ds) 0 r
  refine ⟨?_, ⟨q, h1⟩, ?_⟩
  · rw [h1]; exact List.Pairwise.sublist (h2.cons_cons 0) hi
  · have h3 := congrArg List.length h1
    rw [List.length_map] at h3
    have := h2.length_le
    simp at h3 hl
    omega
theorem Inc.filter_le {l : List Int} (h : Inc l) {i : Nat} (hi : i < l.length) (day : Int) (h1 : l[i] ≤ day) (h2 : ∀ j, (hj : j < l.length) → i < j → day < l[j]) : (l.filter fun f => decide (f ≤ day)).length = i + 1 := by
  have e : l = l.take (i + 1) ++ l.drop (i + 1) := (List.take_append_drop _ _).symm
  have f1 : (l.take (i + 1)).filter (fun f => decide (f ≤ day)) = l.take (i + 1) := by
    rw [List.filter_eq_self]
    intro a ha
    obtain ⟨j, hj, rfl⟩ := List.mem_iff_getElem.1 ha
    rw [List.getElem_take]
    rw [List.length_take] at hj
    have : l[j] ≤ l[i] := by
      rcases Nat.lt_or_ge j i with hji | hji
      · have := h.get_lt hji hi; omega
      · have : j = i := by omega
        subst this; exact Int.le_refl _
    simp; omega
  have f2 : (l.drop (i + 1)).filter (fun f => decide (f ≤ day)) = [] := by
    rw [List.filter_eq_nil_iff]
    intro a ha
    obtain ⟨j, hj, rfl⟩ := List.mem_iff_getElem.1 ha
    rw [List.getElem_drop]
    rw [List.length_drop] at hj
    have := h2 (i + 1 + j) (by omega) (by omega)
    simp; omega
  conv => lhs; rw [e]
  rw [List.filter_append, f1, f2, List.append_nil, List.length_take]
  omega
theorem partAt_eq {l : List Int} (h : Inc l) {i : Nat} (hi : i < l.length) (day : Int) (h1 : l[i] ≤ day) (h2 : ∀ j, (hj : j < l.length) → i < j → day < l[j]) : partAt l day = i := by
  unfold partAt
  rw [Inc.filter_le h hi day h1 h2]; omega
theorem pairwise_ne_mem {α β : Type} {f : α → β} : ∀ {l : List α}, l.Pairwise (fun a b => f a ≠ f b) → ∀ {a b : α}, a ∈ l → b ∈ l → f a = f b → a = b
  | [], _, a, b, ha, _, _ => by simp at ha
  | x :: l, h, a, b, ha, hb, e => by
    have h' := List.pairwise_cons.1 h
    rcases List.mem_cons.1 ha with ea | ha2
    · rcases List.mem_cons.1 hb with eb | hb2
      · rw [ea, eb]
      · rw [ea] at e; exact absurd e (h'.1 b hb2)
    · rcases List.mem_cons.1 hb with eb | hb2
      · rw [eb] at e; exact absurd e.symm (h'.1 a ha2)
      · exact pairwise_ne_mem h'.2 ha2 hb2 e
theorem sortM_perm (l : List Mv) : (sortM l).Perm l := List.mergeSort_perm _ _
theorem sortM_le (l : List Mv) : (sortM l).Pairwise fun a b => a.day ≤ b.day := by
  have := List.pairwise_mergeSort (le := fun a b : Mv => decide (a.day ≤ b.day)) (fun a b c h1 h2 => by simp at *; omega) (fun a b => by simp; omega) l
  exact this.imp fun h => by simpa using h
theorem sortM_eq {l ys : List Mv} (hd : l.Pairwise fun a b => a.day ≠ b.day) (hp : ys.Perm l) (hs : ys.Pairwise fun a b => a.day ≤ b.day) : ys = sortM l :=
  List.Perm.eq_of_pairwise (le := fun a b : Mv => a.day ≤ b.day) (fun a b ha hb h1 h2 => pairwise_ne_mem (f := Mv.day) hd (hp.mem_iff.1 ha) ((sortM_perm l).mem_iff.1 hb) (by omega)) hs (sortM_le l) (hp.trans (sortM_perm l).symm)
theorem validD_move {d : De} (h : validD d = true) (hk : d.kind = 1) : moveOK d.mv = true ∧ d.mv.day = d.day := by
  unfold validD validE at h
  simp only [Bool.and_eq_true] at h
  have h4 := h.2
  unfold kindE at h4
  rw [if_pos (show (d.ed none d.rule.length 0).kind = 1 from hk)] at h4
  simp only [Bool.and_eq_true, decide_eq_true_eq] at h4
  exact ⟨h4.1.1, h4.1.2⟩
theorem movesOK_pair : ∀ {ms : List Mv} {p : Option Int}, movesOK p ms = true → (ms.Pairwise fun a b => a.day < b.day) ∧ ∀ d, p = some d → ∀ m ∈ ms, d < m.day
  | [], _, _ => ⟨List.Pairwise.nil, by simp⟩
  | x :: r, p, h => by
    have h' : (moveOK x && ((match p with | none => true | some d => decide (d < x.day)) && movesOK (some x.day) r)) = true := by cases p <;> exact h
    simp only [Bool.and_eq_true] at h'
    obtain ⟨h1, h2⟩ := movesOK_pair h'.2.2
    refine ⟨List.pairwise_cons.2 ⟨fun m hm => h2 _ rfl m hm, h1⟩, ?_⟩
    rintro d rfl m hm
    have h3 : d < x.day := by simpa using h'.2.1
    rcases List.mem_cons.1 hm with rfl | hm
    · exact h3
    · have := h2 _ rfl m hm; omega
theorem overD_move {a b : De} (ha : a.kind = 1) (hb : b.kind = 1) : overD a b = (lessD a b && decide (a.day = b.day)) := by
  unfold overD overE
  rw [if_pos ⟨ha, hb⟩]
  rfl
theorem mem_forceD {o : List De} {d : De} : d ∈ forceD o ↔ d ∈ o ∧ ∀ b ∈ o, overD d b = false := by
  unfold forceD
  rw [List.mem_filter]
  simp
theorem forceD_sorted {o : List De} (h : SortedD o) : SortedD (forceD o) := List.Pairwise.sublist List.filter_sublist h
/-- The moves in force are on different days. -/
theorem movesD_ne {ms : List Mv} {o : List De} {e : Int} (hs : SortedD o) (hv : ∀ d ∈ o, validD d = true) (hm : movesOK none ms = true) : (movesD ms (forceD o) e).Pairwise fun a b => a.day ≠ b.day := by
  unfold movesD
  rw [List.pairwise_append]
  refine ⟨?_, ?_, ?_⟩
  · rw [List.pairwise_map]
    have h1 : SortedD ((forceD o).filter isMove) := List.Pairwise.sublist List.filter_sublist (forceD_sorted hs)
    refine List.Pairwise.imp_of_mem (fun {a b} ha hb hab => ?_) h1
    obtain ⟨ha1, ha2⟩ := List.mem_filter.1 ha
    obtain ⟨hb1, hb2⟩ := List.mem_filter.1 hb
    obtain ⟨ha3, ha4⟩ := mem_forceD.1 ha1
    have hb3 := (mem_forceD.1 hb1).1
    have ka : a.kind = 1 := by simpa [isMove] using ha2
    have kb : b.kind = 1 := by simpa [isMove] using hb2
    rw [(validD_move (hv a ha3) ka).2, (validD_move (hv b hb3) kb).2]
    intro hd
    have := ha4 b hb3
    rw [overD_move ka kb, hab, decide_eq_true hd] at this
    cases this
  · refine List.Pairwise.sublist List.filter_sublist ((movesOK_pair hm).1.imp fun h => ?_)
    omega
  · intro a ha b hb
    obtain ⟨d, hd, rfl⟩ := List.mem_map.1 ha
    obtain ⟨hd1, hd2⟩ := List.mem_filter.1 hd
    obtain ⟨hb1, hb2⟩ := List.mem_filter.1 hb
    have kd : d.kind = 1 := by simpa [isMove] using hd2
    rw [(validD_move (hv d (mem_forceD.1 hd1).1) kd).2]
    intro hdd
    simp only [Bool.and_eq_true, Bool.not_eq_true', List.any_eq_false] at hb2
    have := hb2.2.1 d hd1
    simp [isMoveOn, kd, hdd] at this
end Go.Proofs.Ytpnhiknfcpkfbaa
