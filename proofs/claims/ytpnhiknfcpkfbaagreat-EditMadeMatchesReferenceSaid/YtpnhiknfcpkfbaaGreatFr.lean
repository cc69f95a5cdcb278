import Derived.Test.YtpnhiknfcpkfbaaGreatFp
import Derived.Test.YtpnhiknfcpkfbaaGreatZi
namespace Go.Proofs.YtpnhiknfcpkfbaaGreat
set_option linter.unusedSimpArgs false
set_option linter.unusedVariables false
open Go.Proofs.YtpnhiknfcpkfbaaGreat.Vc
/-! ### The reference's Merge, in plain words: all days are tried in order -/
/-- The moves go to the last part. -/
def addLast (out : List Pa) (m : List Mv) : List Pa := match out.getLast? with
  | none => out
  | some y => out.dropLast ++ [⟨y.day, y.ti, y.moves ++ m⟩]
theorem addLast_snoc (out : List Pa) (y : Pa) (m : List Mv) : addLast (out ++ [y]) m = out ++ [⟨y.day, y.ti, y.moves ++ m⟩] := by
  unfold addLast
  rw [List.getLast?_concat, List.dropLast_concat]
/-- A part begins where the series changes. -/
def newPart (out : List Pa) (d : Int) (x : Ti) : List Pa := match out.getLast? with
  | none => out ++ [⟨d, x, []⟩]
  | some y => if y.ti = x then out else out ++ [⟨d, x, []⟩]
theorem newPart_nil (d : Int) (x : Ti) : newPart [] d x = [⟨d, x, []⟩] := rfl
theorem newPart_snoc (out : List Pa) (y : Pa) (d : Int) (x : Ti) : newPart (out ++ [y]) d x = if y.ti = x then out ++ [y] else out ++ [y] ++ [⟨d, x, []⟩] := by
  unfold newPart
  rw [List.getLast?_concat]
/-- e: the end; f: the series of a day; mv: the moves of a day. -/
def refGo (e : Int) (f : Int → Ti) (mv : Int → List Mv) : List Int → List Pa → List Pa
  | [], out => out
  | d :: r, out => if e ≤ d then addLast (newPart out d Ti.zero) [] else refGo e f mv r (addLast (newPart out d (f d)) (mv d))
def bare (p : Pa) : Int × Ti := (p.day, p.ti)
/-- The parts with the moves added that belong to them. -/
def placeOn (P : List (Int × Ti)) (out : List Pa) (M : List Mv) : List Pa := P.mapIdx fun i p => ⟨p.1, p.2, ((out[i]?).map (·.moves)).getD [] ++ M.filter fun m => decide (partAt (P.map (·.1)) m.day = i)⟩
theorem placeOn_nil (P : List (Int × Ti)) (M : List Mv) : placeOn P [] M = placeD P M := by
  unfold placeOn placeD
  simp
theorem partsGo_more (e : Int) (f : Int → Ti) : ∀ (l : List Int) (out : List (Int × Ti)), ∃ t, partsGo e f l out = out ++ t ∧ ∀ p ∈ t, p.1 ∈ l
  | [], out => ⟨[], by rw [partsGo_nil]; simp, by simp⟩
  | d :: r, out => by
    by_cases he : e ≤ d
    · exact ⟨[(d, Ti.zero)], partsGo_end he, by simp⟩
    · have hnew : ∃ t, partsGo e f r (out ++ [(d, f d)]) = out ++ t ∧ ∀ p ∈ t, p.1 ∈ d :: r := by
        obtain ⟨t, h1, h2⟩ := partsGo_more e f r (out ++ [(d, f d)])
        refine ⟨(d, f d) :: t, by rw [h1]; simp, fun p hp => ?_⟩
        rcases List.mem_cons.1 hp with rfl | hp
        · simp
        · exact List.mem_cons_of_mem _ (h2 p hp)
      rcases List.eq_nil_or_concat out with hnil | ⟨out0, y, hc⟩
      · subst hnil
        rw [partsGo_first he]
        exact hnew
      · rw [List.concat_eq_append] at hc
        cases hs : sameTi (f d) y.2 with
        | false =>
          rw [hc, partsGo_new he hs, ← hc]
          exact hnew
        | true =>
          rw [hc, partsGo_same he hs, ← hc]
          obtain ⟨t, h1, h2⟩ := partsGo_more e f r out
          exact ⟨t, h1, fun p hp => List.mem_cons_of_mem _ (h2 p hp)⟩
theorem partAt_pre {A : List (Int × Ti)} {t : List (Int × Ti)} {d : Int} (h1 : ∀ p ∈ A, p.1 ≤ d) (h2 : ∀ p ∈ t, d < p.1) : partAt ((A ++ t).map (·.1)) d = A.length - 1 := by
  unfold partAt
  rw [List.map_append, List.filter_append, List.filter_eq_self.2, List.filter_eq_nil_iff.2]
  · simp
  · intro x hx
    obtain ⟨p, hp, rfl⟩ := List.mem_map.1 hx
    have := h2 p hp
    simp; omega
  · intro x hx
    obtain ⟨p, hp, rfl⟩ := List.mem_map.1 hx
    have := h1 p hp
    simpa using this
def mvAt (out : List Pa) (i : Nat) : List Mv := ((out[i]?).map (·.moves)).getD []
theorem place_shift {P : List (Int × Ti)} {out out' : List Pa} {D M : List Mv} {d : Int} (hD : ∀ m ∈ D, m.day = d) (h : ∀ i, mvAt out' i = if partAt (P.map (·.1)) d = i then mvAt out i ++ D else mvAt out i) : placeOn P out' M = placeOn P out (D ++ M) := by
  unfold placeOn
  refine List.ext_getElem (by simp) fun i h1 h2 => ?_
  simp only [List.getElem_mapIdx, Pa.mk.injEq, true_and]
  rw [show ((out'[i]?).map (·.moves)).getD [] = mvAt out' i from rfl, show ((out[i]?).map (·.moves)).getD [] = mvAt out i from rfl, h i, List.filter_append]
  by_cases hi : partAt (P.map (·.1)) d = i
  · have hf1 : D.filter (fun m => decide (partAt (P.map (·.1)) m.day = i)) = D := List.filter_eq_self.2 fun m hm => by rw [hD m hm]; simpa using hi
    rw [if_pos hi, hf1, List.append_assoc]
  · have hf1 : D.filter (fun m => decide (partAt (P.map (·.1)) m.day = i)) = [] := List.filter_eq_nil_iff.2 fun m hm => by rw [hD m hm]; simpa using hi
    rw [if_neg hi, hf1, List.nil_append]
theorem newPart_new {out : List Pa} {d : Int} {x : Ti} (h : ∀ y, out.getLast? = some y → y.ti ≠ x) : newPart out d x = out ++ [⟨d, x, []⟩] := by
  unfold newPart
  cases hl : out.getLast? with
  | none => rfl
  | some y => simp [h y hl]
theorem mvAt_snoc (out : List Pa) (y : Pa) (i : Nat) : mvAt (out ++ [y]) i = if i = out.length then y.moves else mvAt out i := by
  unfold mvAt
  rcases Nat.lt_trichotomy i out.length with h | h | h
  · rw [if_neg (by omega), List.getElem?_append_left h]
  · subst h; rw [if_pos rfl, List.getElem?_concat_length]; rfl
  · rw [if_neg (by omega), List.getElem?_eq_none (by simp; omega), List.getElem?_eq_none (by omega)]
theorem mvAt_out {out : List Pa} {i : Nat} (h : out.length ≤ i) : mvAt out i = [] := by
  unfold mvAt
  rw [List.getElem?_eq_none h]; rfl
/-- What the reference does is our parts with the moves at their places. -/
theorem refGo_eq (e : Int) (f : Int → Ti) (mv : Int → List Mv) (hz : ∀ d, 0 ≤ d → f d ≠ Ti.zero) (hs : ∀ a b : Int, 0 ≤ a → 0 ≤ b → sameTi (f a) (f b) = true → f a = f b) (hmv : ∀ d, ∀ m ∈ mv d, m.day = d) :
    ∀ (l : List Int) (out : List Pa), Inc l → (∀ d ∈ l, 0 ≤ d) → (∀ p ∈ out, ∀ d ∈ l, p.day < d) → (∀ p ∈ out, ∃ d' : Int, 0 ≤ d' ∧ p.ti = f d') →
      refGo e f mv l out = placeOn (partsGo e f l (out.map bare)) out ((l.filter fun d => decide (d < e)).flatMap mv)
  | [], out, _, _, _, _ => by
    rw [partsGo_nil]
    simp only [refGo, placeOn, List.filter_nil, List.flatMap_nil, List.append_nil]
    refine List.ext_getElem (by simp) fun i h1 h2 => ?_
    simp [bare, h1]
  | d :: r, out, hi, hnn, ho, hf => by
    have h' := List.pairwise_cons.1 hi
    have hd0 := hnn d (by simp)
    have hle : ∀ p ∈ out.map bare, p.1 ≤ d := fun p hp => by
      obtain ⟨q, hq, rfl⟩ := List.mem_map.1 hp
      have := ho q hq d (by simp)
      show q.day ≤ d
      omega
    by_cases he : e ≤ d
    · have hM : (d :: r).filter (fun d => decide (d < e)) = [] := by
        rw [List.filter_eq_nil_iff]
        intro x hx
        rcases List.mem_cons.1 hx with rfl | hx
        · simp; omega
        · have := h'.1 x hx
          simp; omega
      rw [partsGo_end he, hM, refGo, if_pos he, newPart_new (fun y hy => by
        obtain ⟨d', h0, h1⟩ := hf y (List.mem_of_getLast? hy)
        rw [h1]; exact hz d' h0), addLast_snoc]
      unfold placeOn
      refine List.ext_getElem (by simp) fun i h1 h2 => ?_
      simp only [List.getElem_mapIdx]
      by_cases hio : i < out.length
      · rw [List.getElem_append_left hio, List.getElem_append_left (by simpa using hio)]
        simp [bare, hio]
      · have : i = out.length := by simp at h1; omega
        subst this
        simp
    · have hfd : (d :: r).filter (fun d => decide (d < e)) = d :: r.filter fun d => decide (d < e) := by rw [List.filter_cons, if_pos (by simp; omega)]
      rw [hfd, List.flatMap_cons, refGo, if_neg he]
      have hgt : ∀ {t : List (Int × Ti)}, (∀ p ∈ t, p.1 ∈ r) → ∀ p ∈ t, d < p.1 := fun ht p hp => h'.1 _ (ht p hp)
      have hnew : (∀ y, out.getLast? = some y → y.ti ≠ f d) → refGo e f mv r (addLast (newPart out d (f d)) (mv d)) = placeOn (partsGo e f r (out.map bare ++ [(d, f d)])) out (mv d ++ (r.filter fun d => decide (d < e)).flatMap mv) := fun hn => by
        rw [newPart_new hn, addLast_snoc]
        have hmap : (out ++ [(⟨d, f d, [] ++ mv d⟩ : Pa)]).map bare = out.map bare ++ [(d, f d)] := by simp [bare]
        rw [refGo_eq e f mv hz hs hmv r _ h'.2 (fun x hx => hnn x (by simp [hx])) (fun p hp x hx => by
          rcases List.mem_append.1 hp with hp | hp
          · exact ho p hp x (by simp [hx])
          · simp only [List.mem_cons, List.not_mem_nil, or_false] at hp; subst hp; exact h'.1 x hx) (fun p hp => by
          rcases List.mem_append.1 hp with hp | hp
          · exact hf p hp
          · simp only [List.mem_cons, List.not_mem_nil, or_false] at hp; subst hp; exact ⟨d, hd0, rfl⟩), hmap]
        obtain ⟨t, ht1, ht2⟩ := partsGo_more e f r (out.map bare ++ [(d, f d)])
        refine place_shift (hmv d) fun i => ?_
        rw [ht1, partAt_pre (fun p hp => by
          rcases List.mem_append.1 hp with hp | hp
          · exact hle p hp
          · simp only [List.mem_cons, List.not_mem_nil, or_false] at hp; subst hp; exact Int.le_refl _) (hgt ht2), mvAt_snoc]
        simp only [List.length_append, List.length_map, List.length_cons, List.length_nil, Nat.zero_add, Nat.add_sub_cancel, List.nil_append]
        by_cases hi' : i = out.length
        · subst hi'
          rw [if_pos rfl, if_pos rfl, mvAt_out (Nat.le_refl _), List.nil_append]
        · rw [if_neg hi', if_neg (fun h => hi' h.symm)]
      rcases List.eq_nil_or_concat out with hnil | ⟨out0, y, hc⟩
      · subst hnil
        rw [List.map_nil, partsGo_first he]
        exact hnew (by simp)
      · rw [List.concat_eq_append] at hc
        by_cases hy : y.ti = f d
        · have hmap : out.map bare = out0.map bare ++ [(y.day, y.ti)] := by rw [hc]; simp [bare]
          have hmap2 : (out0 ++ [(⟨y.day, y.ti, y.moves ++ mv d⟩ : Pa)]).map bare = out.map bare := by rw [hmap]; simp [bare]
          rw [hc, newPart_snoc, if_pos hy, addLast_snoc, ← hc, hmap, partsGo_same he (by show sameTi (f d) y.ti = true; rw [hy]; exact sameTi_self _), ← hmap]
          rw [refGo_eq e f mv hz hs hmv r _ h'.2 (fun x hx => hnn x (by simp [hx])) (fun p hp x hx => by
            rcases List.mem_append.1 hp with hp | hp
            · exact ho p (by rw [hc]; simp [hp]) x (by simp [hx])
            · simp only [List.mem_cons, List.not_mem_nil, or_false] at hp; subst hp; exact ho y (by rw [hc]; simp) x (by simp [hx])) (fun p hp => by
            rcases List.mem_append.1 hp with hp | hp
            · exact hf p (by rw [hc]; simp [hp])
            · simp only [List.mem_cons, List.not_mem_nil, or_false] at hp; subst hp; exact hf y (by rw [hc]; simp)), hmap2]
          obtain ⟨t, ht1, ht2⟩ := partsGo_more e f r (out.map bare)
          refine place_shift (hmv d) fun i => ?_
          rw [ht1, partAt_pre hle (hgt ht2), hc, mvAt_snoc, mvAt_snoc]
          simp only [List.length_append, List.length_map, List.length_cons, List.length_nil, Nat.zero_add, Nat.add_sub_cancel]
          by_cases hi' : i = out0.length
          · subst hi'
            rw [if_pos rfl, if_pos rfl]; simp
          · rw [if_neg hi', if_neg (fun h => hi' h.symm), if_neg hi']
        · have hmap : out.map bare = out0.map bare ++ [(y.day, y.ti)] := by rw [hc]; simp [bare]
          have hne : sameTi (f d) y.ti = false := by
            cases hsm : sameTi (f d) y.ti with
            | false => rfl
            | true =>
              obtain ⟨d', h0, h1⟩ := hf y (by rw [hc]; simp)
              rw [h1] at hsm
              exact absurd (h1.trans (hs d d' hd0 h0 hsm).symm) hy
          rw [hmap, partsGo_new he hne, ← hmap]
          exact hnew (fun z hz' => by
            rw [hc, List.getLast?_concat] at hz'
            cases hz'
            exact hy)
end Go.Proofs.YtpnhiknfcpkfbaaGreat
namespace Go.Proofs.YtpnhiknfcpkfbaaGreat
set_option linter.unusedSimpArgs false
set_option linter.unusedVariables false
open Go.Proofs.YtpnhiknfcpkfbaaGreat.Vc
/-! ### Parts are determined by what they hold -/
theorem hold_one {p : Int × Ti} {P : List (Int × Ti)} {x : Int} (h1 : p.1 ≤ x) (h2 : ∀ q ∈ P, x < q.1) : holdP (p :: P) x = some p := by
  unfold holdP
  rw [List.filter_cons, if_pos (by simpa using h1), List.filter_eq_nil_iff.2 (fun q hq => by have := h2 q hq; simp; omega)]
  rfl
theorem hold_tail {p q : Int × Ti} {P : List (Int × Ti)} {x : Int} (h1 : p.1 ≤ x) (h2 : q.1 ≤ x) : holdP (p :: q :: P) x = holdP (q :: P) x := by
  have e1 : (p :: q :: P).filter (fun p => decide (p.1 ≤ x)) = p :: q :: P.filter fun p => decide (p.1 ≤ x) := by simp [h1, h2]
  have e2 : (q :: P).filter (fun p => decide (p.1 ≤ x)) = q :: P.filter fun p => decide (p.1 ≤ x) := by simp [h2]
  unfold holdP
  rw [e1, e2, List.getLast?_cons_cons]
theorem AdjNe.tail {p : Int × Ti} {P : List (Int × Ti)} (h : AdjNe (p :: P)) : AdjNe P := fun i hi => by
  have := h (i + 1) (by simp; omega)
  simpa using this
theorem parts_unique : ∀ (P Q : List (Int × Ti)), Inc (P.map (·.1)) → Inc (Q.map (·.1)) → AdjNe P → AdjNe Q → P.head?.map (·.1) = Q.head?.map (·.1) →
    (∀ x, x ∈ P.map (·.1) ∨ x ∈ Q.map (·.1) → (holdP P x).map (·.2) = (holdP Q x).map (·.2)) → P = Q
  | [], [], _, _, _, _, _, _ => rfl
  | [], q :: Q, _, _, _, _, h, _ => by simp at h
  | p :: P, [], _, _, _, _, h, _ => by simp at h
  | p :: P, q :: Q, hp, hq, ap, aq, h0, hh => by
    simp only [List.head?_cons, Option.map_some, Option.some.injEq] at h0
    have hp' := List.pairwise_cons.1 (show Inc (p.1 :: P.map (·.1)) from hp)
    have hq' := List.pairwise_cons.1 (show Inc (q.1 :: Q.map (·.1)) from hq)
    have hpl : ∀ y ∈ P, p.1 < y.1 := fun y hy => hp'.1 y.1 (List.mem_map_of_mem hy)
    have hql : ∀ y ∈ Q, q.1 < y.1 := fun y hy => hq'.1 y.1 (List.mem_map_of_mem hy)
    have e1 := hh p.1 (.inl (by simp))
    rw [hold_one (Int.le_refl _) hpl, hold_one (by omega) (fun y hy => by have := hql y hy; omega)] at e1
    simp only [Option.map_some, Option.some.injEq] at e1
    have hpq : p = q := Prod.ext h0 e1
    subst hpq
    congr 1
    rcases P with _ | ⟨p1, P⟩ <;> rcases Q with _ | ⟨q1, Q⟩
    · rfl
    · exfalso
      have := hh q1.1 (.inr (by simp))
      have h1 := hql q1 (by simp)
      rw [hold_one (by omega) (by simp), hold_tail (by omega) (Int.le_refl _), hold_one (Int.le_refl _) (fun y hy => (List.pairwise_cons.1 hq'.2).1 y.1 (List.mem_map_of_mem hy))] at this
      simp only [Option.map_some, Option.some.injEq] at this
      exact aq 0 (by simp) this
    · exfalso
      have := hh p1.1 (.inl (by simp))
      have h1 := hpl p1 (by simp)
      rw [hold_one (P := []) (by omega) (by simp), hold_tail (by omega) (Int.le_refl _), hold_one (Int.le_refl _) (fun y hy => (List.pairwise_cons.1 hp'.2).1 y.1 (List.mem_map_of_mem hy))] at this
      simp only [Option.map_some, Option.some.injEq] at this
      exact ap 0 (by simp) this.symm
    · have hpt : ∀ y ∈ P, p1.1 < y.1 := fun y hy => (List.pairwise_cons.1 hp'.2).1 y.1 (List.mem_map_of_mem hy)
      have hqt : ∀ y ∈ Q, q1.1 < y.1 := fun y hy => (List.pairwise_cons.1 hq'.2).1 y.1 (List.mem_map_of_mem hy)
      have h1 := hpl p1 (by simp)
      have h2 := hql q1 (by simp)
      have hd : p1.1 = q1.1 := by
        rcases Int.lt_trichotomy p1.1 q1.1 with h | h | h
        · exfalso
          have := hh p1.1 (.inl (by simp))
          rw [hold_tail (by omega) (Int.le_refl _), hold_one (Int.le_refl _) hpt, hold_one (by omega) (fun y hy => by
            rcases List.mem_cons.1 hy with rfl | hy
            · exact h
            · have := hqt y hy; omega)] at this
          simp only [Option.map_some, Option.some.injEq] at this
          exact ap 0 (by simp) this.symm
        · exact h
        · exfalso
          have := hh q1.1 (.inr (by simp))
          rw [hold_tail (p := p) (q := q1) (by omega) (Int.le_refl _), hold_one (p := q1) (Int.le_refl _) hqt, hold_one (by omega) (fun y hy => by
            rcases List.mem_cons.1 hy with rfl | hy
            · exact h
            · have := hpt y hy; omega)] at this
          simp only [Option.map_some, Option.some.injEq] at this
          exact aq 0 (by simp) this
      refine parts_unique (p1 :: P) (q1 :: Q) hp'.2 hq'.2 ap.tail aq.tail (by simp [hd]) fun x hx => ?_
      have hx1 : p1.1 ≤ x := by
        rcases hx with hx | hx
        · obtain ⟨y, hy, rfl⟩ := List.mem_map.1 hx
          rcases List.mem_cons.1 hy with rfl | hy
          · exact Int.le_refl _
          · have := hpt y hy; omega
        · obtain ⟨y, hy, rfl⟩ := List.mem_map.1 hx
          rcases List.mem_cons.1 hy with rfl | hy
          · omega
          · have := hqt y hy; omega
      have := hh x (hx.imp (fun h => by simp only [List.map_cons, List.mem_cons] at h ⊢; exact .inr h) (fun h => by simp only [List.map_cons, List.mem_cons] at h ⊢; exact .inr h))
      rw [hold_tail (by omega) hx1, hold_tail (by omega) (by omega)] at this
      exact this
/-! ### The moves, day by day -/
theorem flat_perm : ∀ (days : List Int) (L : List Mv), Inc days → (∀ m ∈ L, m.day ∈ days) → (days.flatMap fun d => L.filter fun m => decide (m.day = d)).Perm L
  | [], L, _, h => by
    cases L with
    | nil => exact List.Perm.refl _
    | cons m r => exact absurd (h m (by simp)) (by simp)
  | d :: r, L, hi, h => by
    have hi' := List.pairwise_cons.1 hi
    rw [List.flatMap_cons]
    have h1 := flat_perm r (L.filter fun m => !decide (m.day = d)) hi'.2 (fun m hm => by
      obtain ⟨h2, h3⟩ := List.mem_filter.1 hm
      rcases List.mem_cons.1 (h m h2) with h4 | h4
      · simp [h4] at h3
      · exact h4)
    have h2 : (r.flatMap fun x => (L.filter fun m => !decide (m.day = d)).filter fun m => decide (m.day = x)) = r.flatMap fun x => L.filter fun m => decide (m.day = x) := by
      simp only [List.flatMap_def]
      congr 1
      refine List.map_congr_left fun x hx => ?_
      rw [List.filter_filter]
      refine List.filter_congr fun m _ => ?_
      have := hi'.1 x hx
      by_cases hm : m.day = x
      · have : ¬ m.day = d := by omega
        simp [hm, this]; omega
      · simp [hm]
    rw [h2] at h1
    exact (List.Perm.append_left _ h1).trans (List.filter_append_perm (fun m : Mv => decide (m.day = d)) L)
theorem flat_sorted : ∀ (days : List Int) (L : List Mv), Inc days → (days.flatMap fun d => L.filter fun m => decide (m.day = d)).Pairwise fun a b => a.day ≤ b.day
  | [], _, _ => List.Pairwise.nil
  | d :: r, L, hi => by
    have hi' := List.pairwise_cons.1 hi
    rw [List.flatMap_cons, List.pairwise_append]
    refine ⟨?_, flat_sorted r L hi'.2, fun a ha b hb => ?_⟩
    · refine List.pairwise_of_forall_mem_list fun a ha b hb => ?_
      have h1 := (List.mem_filter.1 ha).2
      have h2 := (List.mem_filter.1 hb).2
      simp at h1 h2; omega
    · have h1 := (List.mem_filter.1 ha).2
      obtain ⟨x, hx, hb⟩ := List.mem_flatMap.1 hb
      have h2 := (List.mem_filter.1 hb).2
      have := hi'.1 x hx
      simp at h1 h2; omega
end Go.Proofs.YtpnhiknfcpkfbaaGreat
namespace Go.Proofs.YtpnhiknfcpkfbaaGreat
set_option linter.unusedSimpArgs false
set_option linter.unusedVariables false
open Go.Proofs.YtpnhiknfcpkfbaaGreat.Vc
/-! ### The reference's Merge is ours: plain facts -/
theorem tiOn_const (s : Se) (rl : List Nd) (o : List De) {x d : Int} (hd : d ≤ x) (hk : ∀ q ∈ o, q.day ≤ x → q.day ≤ d) : tiOn s rl o x = tiOn s rl o d := by
  have key : ∀ q ∈ o, (x < q.day ↔ d < q.day) := fun q hq => ⟨fun h => by omega, fun h => by
    rcases Int.lt_or_le x q.day with h1 | h1
    · exact h1
    · have := hk q hq h1; omega⟩
  have hon : ∀ (l : List De) (u : On), (∀ q ∈ l, q ∈ o) → onE x u l = onE d u l := by
    intro l
    induction l with
    | nil => intro u _; rfl
    | cons q l ih =>
      intro u hq
      have hs : stepOn x u q = stepOn d u q := by
        unfold stepOn
        have := key q (hq q (by simp))
        by_cases h1 : x < q.day
        · rw [if_pos h1, if_pos (this.1 h1)]
        · rw [if_neg h1, if_neg (fun h2 => h1 (this.2 h2))]
      show onE x (stepOn x u q) l = onE d (stepOn d u q) l
      rw [hs]
      exact ih _ fun q' hq' => hq q' (by simp [hq'])
  unfold tiOn
  rw [hon o _ fun _ h => h]
theorem lastLe_max {l : List Int} {x d y : Int} (hi : Inc l) (h : lastLe l x = some d) (hy : y ∈ l) (hyx : y ≤ x) : y ≤ d := by
  have hm : y ∈ l.filter fun d => decide (d ≤ x) := List.mem_filter.2 ⟨hy, by simpa using hyx⟩
  unfold lastLe at h
  obtain ⟨l0, hl⟩ := List.getLast?_eq_some_iff.1 h
  have hi' : Inc (l.filter fun d => decide (d ≤ x)) := List.Pairwise.sublist List.filter_sublist hi
  rw [hl] at hi' hm
  rcases List.mem_append.1 hm with h2 | h2
  · have := (List.pairwise_append.1 hi').2.2 _ h2 d (by simp); omega
  · simp at h2; omega
theorem lastLe_some {l : List Int} {x y : Int} (hy : y ∈ l) (hyx : y ≤ x) : ∃ d, lastLe l x = some d := by
  cases h : lastLe l x with
  | some d => exact ⟨d, rfl⟩
  | none =>
    unfold lastLe at h
    rw [List.getLast?_eq_none_iff, List.filter_eq_nil_iff] at h
    exact absurd (by simpa using hyx) (h y hy)
section
variable {s : Se} {rl : List Nd} {ms : List Mv} {o : List De} {days : List Int} (hs : SortedD o) (hv : ∀ d ∈ o, validD d = true) (hm : movesOK none ms = true) (hl : 1 ≤ s.length)
  (hi : Inc days) (h0 : ∃ r, days = 0 :: r) (hb : ∀ d ∈ days, 0 ≤ d ∧ d ≤ 1099511627776) (hsub : ∀ q ∈ o, q.day ∈ days)
include hs hv hl hi h0 hb hsub
theorem ref_parts : partsGo (endE (forceD o)) (tiOn s rl (forceD o)) days [] = partsD s rl (forceD o) (endE (forceD o)) := by
  have hvf : ∀ d ∈ forceD o, validD d = true := fun d hd => hv d (mem_forceD.1 hd).1
  have hdays := partsD_days s rl (forceD o) (endE (forceD o)) (fun d hd => (valid_day (hvf d hd)).1)
  have hz : ∀ d, tiOn s rl (forceD o) d ≠ Ti.zero := fun d e => by
    have := tiOn_length s rl hvf hl d
    rw [e] at this; simp [Ti.zero] at this
  obtain ⟨r, hr⟩ := h0
  obtain ⟨q, h1, h2⟩ := partsGo_head (endE (forceD o)) (tiOn s rl (forceD o)) 0 r
  rw [← hr] at h1
  have hinc : Inc ((partsGo (endE (forceD o)) (tiOn s rl (forceD o)) days []).map (·.1)) := by
    rw [h1]; exact List.Pairwise.sublist (h2.cons_cons 0) (hr ▸ hi)
  refine parts_unique _ _ hinc hdays.1 (adj_go _ _ hz _ _ (fun i hi => by simp at hi) (by simp)) (adj_go _ _ hz _ _ (fun i hi => by simp at hi) (by simp)) ?_ fun x hx => ?_
  · obtain ⟨r', hr'⟩ := hdays.2.1
    rw [← List.head?_map, ← List.head?_map, h1, hr']; rfl
  · have hx0 : 0 ≤ x ∧ x ≤ 1099511627776 := by
      rcases hx with hx | hx
      · rw [h1] at hx
        exact hb x (hr ▸ (h2.cons_cons 0).subset hx)
      · have hsub2 : x ∈ rising (0 :: (forceD o).map (·.day)) := by
          obtain ⟨r2, hr2⟩ := rising_zero (l := (forceD o).map (·.day)) (fun x hx => by obtain ⟨d, hd, rfl⟩ := List.mem_map.1 hx; exact (valid_day (hvf d hd)).1)
          obtain ⟨q2, k1, k2⟩ := partsGo_head (endE (forceD o)) (tiOn s rl (forceD o)) 0 r2
          unfold partsD at hx
          rw [hr2] at hx ⊢
          rw [k1] at hx
          exact (k2.cons_cons 0).subset hx
        rw [mem_rising] at hsub2
        rcases List.mem_cons.1 hsub2 with rfl | hsub2
        · omega
        · obtain ⟨d, hd, rfl⟩ := List.mem_map.1 hsub2
          exact valid_day (hvf d hd)
    obtain ⟨d', hd'⟩ := force_hold s rl hs hv hx0
    rw [hd']
    obtain ⟨d, hd⟩ := lastLe_some (l := days) (x := x) (y := 0) (by rw [hr]; simp) hx0.1
    obtain ⟨d2, hd2⟩ := (hold_go (endE (forceD o)) (tiOn s rl (forceD o)) (fun a b ha hb h => tiOn_same s rl hvf ha hb h) days [] hi (fun d hd => (hb d hd).1) (by simp) (by simp) x).2 d hd
    rw [hd2]
    obtain ⟨hm1, hm2⟩ := lastLe_mem hd
    have hmax : ∀ q ∈ forceD o, q.day ≤ x → q.day ≤ d := fun q hq hqx => lastLe_max hi hd (hsub q (mem_forceD.1 hq).1) hqx
    rw [← tiOn_const s rl (forceD o) hm2 hmax]
    simp only [Option.map_some, Option.some.injEq]
    rcases end_cases (o := o) with h | ⟨w, hw, _, hwd⟩
    · rw [if_neg (by omega), if_neg (by omega)]
    · by_cases he : endE (forceD o) ≤ x
      · have := hmax w hw (by omega)
        rw [if_pos (by omega), if_pos he]
      · rw [if_neg (by omega), if_neg he]
include hm
/-- The reference's parts, with the moves of each day, are Merge's. -/
theorem ref_merge (hms : ∀ m ∈ ms, m.day ∈ days) : refGo (endE (forceD o)) (tiOn s rl (forceD o)) (fun d => (movesD ms (forceD o) (endE (forceD o))).filter fun m => decide (m.day = d)) days [] = mergeP s rl ms o := by
  have hvf : ∀ d ∈ forceD o, validD d = true := fun d hd => hv d (mem_forceD.1 hd).1
  have hz : ∀ d, 0 ≤ d → tiOn s rl (forceD o) d ≠ Ti.zero := fun d _ e => by
    have := tiOn_length s rl hvf hl d
    rw [e] at this; simp [Ti.zero] at this
  rw [refGo_eq _ _ _ hz (fun a b ha hb h => tiOn_same s rl hvf ha hb h) (fun d m hm => by simpa using (List.mem_filter.1 hm).2) days [] hi (fun d hd => (hb d hd).1) (by simp) (by simp), List.map_nil, ref_parts hs hv hl hi h0 hb hsub, placeOn_nil]
  unfold mergeP
  congr 1
  have hday : ∀ m ∈ movesD ms (forceD o) (endE (forceD o)), m.day ∈ days.filter fun d => decide (d < endE (forceD o)) := fun m hmm => by
    rw [List.mem_filter]
    unfold movesD at hmm
    rcases List.mem_append.1 hmm with h | h
    · obtain ⟨d, hd, rfl⟩ := List.mem_map.1 h
      obtain ⟨hd1, hd2⟩ := List.mem_filter.1 hd
      have hk : d.kind = 1 := by simpa [isMove] using hd2
      have he := (validD_move (hvf d hd1) hk).2
      have := force_lt_end hv hd1 (.inl hk)
      rw [he]
      exact ⟨hsub d (mem_forceD.1 hd1).1, by simpa using this⟩
    · obtain ⟨h1, h2⟩ := List.mem_filter.1 h
      simp only [Bool.and_eq_true, decide_eq_true_eq] at h2
      exact ⟨hms m h1, by simpa using h2.1⟩
  have hif : Inc (days.filter fun d => decide (d < endE (forceD o))) := List.Pairwise.sublist List.filter_sublist hi
  exact sortM_eq (movesD_ne hs hv hm) (flat_perm _ _ hif hday) (flat_sorted _ _ hif)
end
end Go.Proofs.YtpnhiknfcpkfbaaGreat
namespace Go.Proofs.YtpnhiknfcpkfbaaGreat
set_option linter.unusedSimpArgs false
set_option linter.unusedVariables false
open Go.Proofs.YtpnhiknfcpkfbaaGreat.Vc
/-! ### The move of a day, as the reference finds it -/
def mvStep (x : Int) (cur : List Mv) (d : De) : List Mv := if x < d.day then cur else if d.kind = 1 then (if d.day = x then [d.mv] else cur) else if d.kind = 3 then [] else cur
def mvRef (ms : List Mv) (o : List De) (x : Int) : List Mv := o.foldl (mvStep x) (ms.filter fun m => decide (m.day = x))
def relOn (x : Int) (d : De) : Bool := isMoveOn x d || isRuleTo x d
theorem mvRef_eq (ms : List Mv) (x : Int) (o : List De) : mvRef ms o x = match lastOf (relOn x) o with
    | none => ms.filter fun m => decide (m.day = x)
    | some c => if c.kind = 1 then [c.mv] else [] := by
  refine list_snoc_ind (P := fun o => mvRef ms o x = match lastOf (relOn x) o with
    | none => ms.filter fun m => decide (m.day = x)
    | some c => if c.kind = 1 then [c.mv] else []) rfl (fun l d ih => ?_) o
  have h1 : mvRef ms (l ++ [d]) x = mvStep x (mvRef ms l x) d := by unfold mvRef; rw [List.foldl_append]; rfl
  rw [h1, lastOf_snoc]
  unfold mvStep relOn isMoveOn isRuleTo
  by_cases h0 : x < d.day
  · have a1 : ¬ d.day = x := by omega
    have a2 : ¬ d.day ≤ x := by omega
    rw [if_pos h0]
    simp only [a1, a2, decide_false, Bool.and_false, Bool.or_false, Bool.false_eq_true, if_false]
    exact ih
  · have a2 : d.day ≤ x := by omega
    rw [if_neg h0]
    by_cases k1 : d.kind = 1
    · by_cases hd : d.day = x
      · simp [k1, hd]
      · simp only [k1, hd, if_true, if_false, decide_true, decide_false, Bool.and_false, Bool.false_and, Bool.or_false, Bool.false_eq_true, show ¬ (1 : Int) = 3 by omega]
        exact ih
    · by_cases k3 : d.kind = 3
      · simp [k3, a2]
      · simp only [k1, k3, if_false, decide_false, Bool.false_and, Bool.or_false, Bool.false_eq_true]
        exact ih
theorem filt_one {L : List Mv} (hp : L.Pairwise fun a b => a.day ≠ b.day) {m : Mv} {x : Int} (hm : m ∈ L) (hx : m.day = x) : L.filter (fun m => decide (m.day = x)) = [m] := by
  induction L with
  | nil => simp at hm
  | cons a L ih =>
    have hp' := List.pairwise_cons.1 hp
    rcases List.mem_cons.1 hm with rfl | hm'
    · rw [List.filter_cons, if_pos (by simpa using hx), List.filter_eq_nil_iff.2]
      intro b hb
      have := hp'.1 b hb
      simp; omega
    · have := hp'.1 m hm'
      rw [List.filter_cons, if_neg (by simp; omega), ih hp'.2 hm']
theorem mvRef_day {ms : List Mv} {o : List De} (hs : SortedD o) (hv : ∀ d ∈ o, validD d = true) (hm : movesOK none ms = true) {x : Int} (he : x < endE (forceD o)) :
    mvRef ms o x = (movesD ms (forceD o) (endE (forceD o))).filter fun m => decide (m.day = x) := by
  have hvf : ∀ d ∈ forceD o, validD d = true := fun d hd => hv d (mem_forceD.1 hd).1
  have hne := movesD_ne (e := endE (forceD o)) hs hv hm
  rw [mvRef_eq]
  -- what lies in force of the last one that concerns the day
  have hforce : ∀ c, lastOf (relOn x) o = some c → c ∈ forceD o := fun c h => by
    obtain ⟨hc, hp⟩ := lastOf_some h
    have hp' : (c.kind = 1 ∧ c.day = x) ∨ (c.kind = 3 ∧ c.day ≤ x) := by simpa [relOn, isMoveOn, isRuleTo] using hp
    refine mem_forceD.2 ⟨hc, fun b hb => ?_⟩
    cases hcb : overD c b with
    | false => rfl
    | true =>
      exfalso
      rw [overD_iff] at hcb
      have hw : b.kind = 5 → b.day ≤ c.day → False := fun h1 h2 => by have := endE_le hs hb h1; omega
      have hl : relOn x b = true → lessD c b = true → False := fun h1 h3 => by
        rcases lastOf_max hs h hb h1 with e | e
        · rw [e, lessD_irrefl] at h3; cases h3
        · rw [lessD_asymm e] at h3; cases h3
      have hr : (b.kind = 1 ∧ b.day = x) ∨ (b.kind = 3 ∧ b.day ≤ x) → relOn x b = true := fun h => by
        unfold relOn isMoveOn isRuleTo
        rcases h with ⟨h1, h2⟩ | ⟨h1, h2⟩ <;> simp [h1, h2]
      rcases hcb with ⟨h1, h2, h3, h4⟩ | ⟨h1, h3, h4⟩ | ⟨h1, _⟩ | ⟨h1, h2, h3⟩ | ⟨h1, h2, h3⟩
      · exact hl (hr (by omega)) h3
      · exact hl (hr (by omega)) h3
      · omega
      · exact hw h2 h3
      · omega
  cases h : lastOf (relOn x) o with
  | none =>
    have hno := lastOf_none h
    simp only [relOn, Bool.or_eq_false_iff] at hno
    unfold movesD
    rw [List.filter_append]
    have e1 : (((forceD o).filter isMove).map (·.mv)).filter (fun m => decide (m.day = x)) = [] := by
      rw [List.filter_eq_nil_iff]
      intro m hm'
      obtain ⟨d, hd, rfl⟩ := List.mem_map.1 hm'
      obtain ⟨hd1, hd2⟩ := List.mem_filter.1 hd
      have hk : d.kind = 1 := by simpa [isMove] using hd2
      have h1 := (hno d (mem_forceD.1 hd1).1).1
      have h2 := (validD_move (hvf d hd1) hk).2
      simp [isMoveOn, hk] at h1
      simp; omega
    rw [e1, List.nil_append, List.filter_filter]
    refine List.filter_congr fun m _ => ?_
    by_cases hmx : m.day = x
    · have a1 : (forceD o).any (isMoveOn x) = false := List.any_eq_false.2 fun d hd => by rw [(hno d (mem_forceD.1 hd).1).1]; simp
      have a2 : (forceD o).any (isRuleTo x) = false := List.any_eq_false.2 fun d hd => by rw [(hno d (mem_forceD.1 hd).1).2]; simp
      simp [hmx, a1, a2, he]
    · simp [hmx]
  | some c =>
    have hcf := hforce c h
    obtain ⟨hc, hp⟩ := lastOf_some h
    have hp' : (c.kind = 1 ∧ c.day = x) ∨ (c.kind = 3 ∧ c.day ≤ x) := by simpa [relOn, isMoveOn, isRuleTo] using hp
    dsimp only
    by_cases k1 : c.kind = 1
    · rw [if_pos k1]
      have hday := (validD_move (hvf c hcf) k1).2
      refine (filt_one hne ?_ (by omega)).symm
      unfold movesD
      exact List.mem_append_left _ (List.mem_map_of_mem (List.mem_filter.2 ⟨hcf, by simp [isMove, k1]⟩))
    · rw [if_neg k1]
      have k3 : c.kind = 3 ∧ c.day ≤ x := by omega
      refine (List.filter_eq_nil_iff.2 fun m hm' => ?_).symm
      unfold movesD at hm'
      simp only [decide_eq_true_eq]
      intro hmx
      rcases List.mem_append.1 hm' with h1 | h1
      · obtain ⟨d, hd, rfl⟩ := List.mem_map.1 h1
        obtain ⟨hd1, hd2⟩ := List.mem_filter.1 hd
        have hk : d.kind = 1 := by simpa [isMove] using hd2
        have h2 := (validD_move (hvf d hd1) hk).2
        have hrel : relOn x d = true := by
          have : d.day = x := by omega
          simp [relOn, isMoveOn, hk, this]
        rcases lastOf_max hs h (mem_forceD.1 hd1).1 hrel with e | e
        · rw [e] at hk; omega
        · have h3 : ¬ overD d c = true := by rw [(mem_forceD.1 hd1).2 c hc]; simp
          rw [overD_iff] at h3
          exact h3 (.inr (.inl ⟨.inl ⟨hk, k3.1⟩, e, by omega⟩))
      · obtain ⟨_, h2⟩ := List.mem_filter.1 h1
        have : (forceD o).any (isRuleTo m.day) = true := List.any_eq_true.2 ⟨c, hcf, by simp [isRuleTo, k3.1]; omega⟩
        simp [this] at h2
end Go.Proofs.YtpnhiknfcpkfbaaGreat
namespace Go.Proofs.YtpnhiknfcpkfbaaGreat
set_option linter.unusedSimpArgs false
set_option linter.unusedVariables false
open Go.Proofs.YtpnhiknfcpkfbaaGreat.Vc
/-! ### Inserting, as the reference does: plain facts -/
/-- The same for days. -/
def insI (l : List Int) (x : Int) : List Int := let r := l.dropWhile fun y => decide (y < x); (l.takeWhile fun y => decide (y < x)) ++ (if r.head? = some x then r else x :: r)
theorem insI_inc {l : List Int} {x : Int} (h : Inc l) : Inc (insI l x) := by
  have hs := h
  rw [← List.takeWhile_append_dropWhile (p := fun y => decide (y < x)) (l := l)] at hs
  have hs' := List.pairwise_append.1 hs
  have ht : ∀ a ∈ l.takeWhile (fun y => decide (y < x)), a < x := fun a ha => by simpa using mem_tw ha
  unfold insI
  dsimp only
  split
  · exact hs
  · rename_i hh
    have hd : ∀ b ∈ l.dropWhile (fun y => decide (y < x)), x < b := by
      intro b hb
      cases hr : l.dropWhile (fun y => decide (y < x)) with
      | nil => rw [hr] at hb; simp at hb
      | cons y r =>
        have h4 := List.head_dropWhile_not (fun y => decide (y < x)) (l := l) (by rw [hr]; simp)
        simp only [hr, List.head_cons, decide_eq_false_iff_not] at h4
        have hy : x < y := by
          rcases Int.lt_trichotomy x y with h | h | h
          · exact h
          · rw [hr, h] at hh; simp at hh
          · exact absurd h h4
        have h5 := hs'.2.1
        rw [hr] at h5 hb
        rcases List.mem_cons.1 hb with rfl | hb
        · exact hy
        · have := (List.pairwise_cons.1 h5).1 b hb; omega
    refine List.pairwise_append.2 ⟨hs'.1, List.pairwise_cons.2 ⟨hd, hs'.2.1⟩, fun a ha b hb => ?_⟩
    rcases List.mem_cons.1 hb with rfl | hb
    · exact ht a ha
    · exact hs'.2.2 a ha b hb
theorem insI_mem (l : List Int) (x y : Int) : y ∈ insI l x ↔ y = x ∨ y ∈ l := by
  have hl : y ∈ l ↔ y ∈ l.takeWhile (fun y => decide (y < x)) ∨ y ∈ l.dropWhile (fun y => decide (y < x)) := by rw [← List.mem_append, List.takeWhile_append_dropWhile]
  unfold insI
  dsimp only
  rw [hl, List.mem_append]
  split
  · rename_i hh
    have hx : x ∈ l.dropWhile (fun y => decide (y < x)) := List.mem_of_mem_head? hh
    constructor
    · exact .inr
    · rintro (rfl | h)
      · exact .inr hx
      · exact h
  · rw [List.mem_cons]
    constructor
    · rintro (h | h | h)
      · exact .inr (.inl h)
      · exact .inl h
      · exact .inr (.inr h)
    · rintro (h | h | h)
      · exact .inr (.inl h)
      · exact .inl h
      · exact .inr (.inr h)
theorem insAll_facts (L : List De) (hL : Cons L) : ∀ (l : List De), (∀ d ∈ l, d ∈ L) → SortedD (l.foldl insD []) ∧ ∀ x, x ∈ l.foldl insD [] ↔ x ∈ l := by
  intro l
  refine list_snoc_ind (P := fun l => (∀ d ∈ l, d ∈ L) → SortedD (l.foldl insD []) ∧ ∀ x, x ∈ l.foldl insD [] ↔ x ∈ l) (fun _ => ⟨List.Pairwise.nil, by simp⟩) (fun l d ih h => ?_) l
  obtain ⟨h1, h2⟩ := ih fun x hx => h x (by simp [hx])
  rw [List.foldl_append]
  refine ⟨insD_sorted h1, fun x => ?_⟩
  show x ∈ insD (l.foldl insD []) d ↔ _
  rw [insD_mem (fun q hq hk => hL.2 q (h q (by simp [(h2 q).1 hq])) d (h d (by simp)) hk), h2]
  simp [or_comm]
/-- The reference's list of all edits is ours. -/
theorem insAll {l o : List De} (hc : Cons l) (hl : l.length ≤ 4096) (ho : allD l = .ok o) : l.foldl insD [] = o := by
  obtain ⟨o', h1, h2, h3⟩ := allD_cons hc hl
  rw [ho] at h1
  cases h1
  obtain ⟨k1, k2⟩ := insAll_facts l hc l fun _ h => h
  exact SortedD.ext k1 h2 fun x => by rw [k2, h3]
theorem insDays (l : List Int) : ∀ (out : List Int), Inc out → Inc (l.foldl insI out) ∧ ∀ x, x ∈ l.foldl insI out ↔ x ∈ out ∨ x ∈ l := by
  induction l with
  | nil => intro out h; exact ⟨h, by simp⟩
  | cons y l ih =>
    intro out h
    obtain ⟨h1, h2⟩ := ih (insI out y) (insI_inc h)
    refine ⟨h1, fun x => ?_⟩
    rw [List.foldl_cons, h2, insI_mem, List.mem_cons]
    constructor
    · rintro ((h | h) | h)
      · exact .inr (.inl h)
      · exact .inl h
      · exact .inr (.inr h)
    · rintro (h | h | h)
      · exact .inl (.inr h)
      · exact .inl (.inl h)
      · exact .inr h
end Go.Proofs.YtpnhiknfcpkfbaaGreat
