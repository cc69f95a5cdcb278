import Derived.Test.YtojckjngjfgfdaaGreatFj
import Derived.Test.YtojckjngjfgfdaaGreatFy
namespace Go.Proofs.YtojckjngjfgfdaaGreat
set_option linter.unusedSimpArgs false
set_option linter.unusedVariables false
open Go.Proofs.YtojckjngjfgfdaaGreat.Vc
/-! ### What the law asks of Merge's parts: plain facts -/
theorem last_le (l : List Int) (x : Int) : ∀ n, 1 ≤ n → (hn : n ≤ l.length) → (∀ h : 0 < l.length, l[0] ≤ x) → ∃ i, ∃ hi : i < n, l[i] ≤ x ∧ ∀ j, i < j → (hj : j < n) → x < l[j]
  | 0, h, _, _ => by omega
  | 1, _, hn, h0 => ⟨0, by omega, h0 (by omega), fun j h1 h2 => by omega⟩
  | n + 2, _, hn, h0 => by
    by_cases hx : l[n + 1] ≤ x
    · exact ⟨n + 1, by omega, hx, fun j h1 h2 => by omega⟩
    · obtain ⟨i, hi, h1, h2⟩ := last_le l x (n + 1) (by omega) (by omega) h0
      refine ⟨i, by omega, h1, fun j hj hjn => ?_⟩
      by_cases hjn' : j = n + 1
      · subst hjn'; omega
      · exact h2 j hj (by omega)
theorem partAt_spec {l : List Int} (h : Inc l) (hr : ∃ r, l = 0 :: r) {x : Int} (hx : 0 ≤ x) : ∃ hi : partAt l x < l.length, l[partAt l x] ≤ x ∧ ∀ j, partAt l x < j → (hj : j < l.length) → x < l[j] := by
  obtain ⟨r, hr⟩ := hr
  obtain ⟨i, hi, h1, h2⟩ := last_le l x l.length (by rw [hr]; simp) (Nat.le_refl _) (fun h => by subst hr; simpa using hx)
  have := partAt_eq h hi x h1 fun j hj hij => h2 j hij hj
  simp only [this]
  exact ⟨hi, h1, h2⟩
theorem merge_get {s : Se} {rl : List Nd} {ms : List Mv} {o : List De} {i : Nat} (h : i < (mergeP s rl ms o).length) : ∃ h' : i < (partsD s rl (forceD o) (endE (forceD o))).length,
    (mergeP s rl ms o)[i] = ⟨((partsD s rl (forceD o) (endE (forceD o)))[i]).1, ((partsD s rl (forceD o) (endE (forceD o)))[i]).2, (sortM (movesD ms (forceD o) (endE (forceD o)))).filter fun m => decide (partAt ((partsD s rl (forceD o) (endE (forceD o))).map (·.1)) m.day = i)⟩ := by
  have h' : i < (partsD s rl (forceD o) (endE (forceD o))).length := by rw [mergeP_len] at h; exact h
  obtain ⟨p, hp, he⟩ := mergeP_at (List.getElem?_eq_getElem h)
  rw [List.getElem?_eq_getElem h'] at hp
  cases hp
  exact ⟨h', he⟩
theorem Inc.lt {l : List Int} (h : Inc l) {i j : Nat} (hij : i < j) (hj : j < l.length) : l[i] < l[j] := List.pairwise_iff_getElem.1 h i j (by omega) hj hij
/-- What the law asks of parts; `t` is what is in force on day x, `e` the end. -/
def PartsF (pp : List Pa) (x e : Int) (t : Ti) : Prop :=
    (∀ i j (hj : j < pp.length) (hij : i < j), (pp[i]).day < (pp[j]).day) ∧ (∃ h : 0 < pp.length, (pp[0]).day = 0) ∧ (∀ i (h : i + 1 < pp.length), (pp[i]).ti ≠ (pp[i + 1]).ti) ∧
    (∀ i (h : i < pp.length), (∀ m ∈ (pp[i]).moves, (pp[i]).day ≤ m.day ∧ ∀ h : i + 1 < pp.length, m.day < (pp[i + 1]).day) ∧ (pp[i]).moves.Pairwise fun a b => a.day < b.day) ∧
    ∃ a, ∃ h : a < pp.length, (pp[a]).day ≤ x ∧ (∀ j, a < j → (hj : j < pp.length) → x < (pp[j]).day) ∧ (pp[a]).ti = (if e ≤ x then Ti.zero else t) ∧ (e ≤ x → a + 1 = pp.length)
/-- What holds of Merge's parts. -/
theorem merge_facts (s : Se) (rl : List Nd) (ms : List Mv) {o : List De} (hs : SortedD o) (hv : ∀ d ∈ o, validD d = true) (hm : movesOK none ms = true) (hl : 1 ≤ s.length) {x : Int} (hx : 0 ≤ x ∧ x ≤ 1099511627776) :
    PartsF (mergeP s rl ms o) x (endE (forceD o)) (tiOn s rl (forceD o) x) := by
  have hvf : ∀ d ∈ forceD o, validD d = true := fun d hd => hv d (mem_forceD.1 hd).1
  have hdays := partsD_days s rl (forceD o) (endE (forceD o)) (fun d hd => (valid_day (hvf d hd)).1)
  have hadj : AdjNe (partsD s rl (forceD o) (endE (forceD o))) := adj_go _ _ (fun d e => by
    have := tiOn_length s rl hvf hl d
    rw [e] at this; simp [Ti.zero] at this) _ _ (fun i hi => by simp at hi) (by simp)
  have hend : ∀ y ∈ forceD o, y.day = endE (forceD o) → ∃ q, partsD s rl (forceD o) (endE (forceD o)) = q ++ [(endE (forceD o), Ti.zero)] := fun y hy he => end_go _ _ _ _ (rising_inc _) (by rw [mem_rising, ← he]; exact List.mem_cons_of_mem _ (List.mem_map_of_mem hy))
  have hhold := force_hold s rl hs hv hx
  have hmday := movesD_day (e := endE (forceD o)) (movesOK_all hm) hvf
  have hmne := movesD_ne (e := endE (forceD o)) hs hv hm
  have hlen := mergeP_len s rl ms o
  have hget := fun i h => merge_get (s := s) (rl := rl) (ms := ms) (o := o) (i := i) h
  have hec := end_cases (o := o)
  generalize mergeP s rl ms o = pp at *
  generalize partsD s rl (forceD o) (endE (forceD o)) = pd at *
  unfold PartsF
  obtain ⟨hinc, hzero, _⟩ := hdays
  have hday : ∀ i (h : i < pp.length) (h' : i < (pd.map (·.1)).length), (pp[i]).day = (pd.map (·.1))[i] := fun i h h' => by
    obtain ⟨h1, e⟩ := hget i h
    rw [e, List.getElem_map]
  have hl2 : (pd.map (·.1)).length = pp.length := by rw [hlen]; simp
  refine ⟨fun i j hj hij => ?_, ?_, fun i h => ?_, fun i h => ⟨fun m hm' => ?_, ?_⟩, ?_⟩
  · rw [hday i (by omega) (by omega), hday j hj (by omega)]
    exact hinc.lt hij (by omega)
  · obtain ⟨r, hr⟩ := hzero
    have h0 : 0 < pp.length := by rw [← hl2, hr]; simp
    refine ⟨h0, ?_⟩
    rw [hday 0 h0 (by omega)]
    simp only [hr, List.getElem_cons_zero]
  · obtain ⟨h1, e1⟩ := hget i (by omega)
    obtain ⟨h2, e2⟩ := hget (i + 1) h
    rw [e1, e2]
    exact hadj i (by omega)
  · obtain ⟨h1, e⟩ := hget i h
    rw [e] at hm'
    obtain ⟨hm1, hm2⟩ := List.mem_filter.1 hm'
    have hm0 := hmday m ((sortM_perm _).mem_iff.1 hm1)
    have hpa : partAt (pd.map (·.1)) m.day = i := by simpa using hm2
    obtain ⟨hi, k1, k2⟩ := partAt_spec hinc hzero hm0
    simp only [hpa] at hi k1 k2
    refine ⟨by rw [hday i h hi]; exact k1, fun h2 => ?_⟩
    rw [hday (i + 1) h2 (by omega)]
    exact k2 (i + 1) (by omega) (by omega)
  · obtain ⟨h1, e⟩ := hget i h
    rw [e]
    refine List.Pairwise.sublist List.filter_sublist ?_
    have h1 := sortM_le (movesD ms (forceD o) (endE (forceD o)))
    have h2 := (sortM_perm (movesD ms (forceD o) (endE (forceD o)))).symm.pairwise hmne (fun h => fun e => h e.symm)
    exact h1.imp₂ (fun a b => fun (h1 : a.day ≤ b.day) (h2 : a.day ≠ b.day) => by omega) h2
  · obtain ⟨hi, k1, k2⟩ := partAt_spec hinc hzero hx.1
    generalize partAt (pd.map (·.1)) x = a at *
    have ha : a < pd.length := by simpa using hi
    refine ⟨a, by omega, by rw [hday a (by omega) hi]; exact k1, fun j hj hjl => by rw [hday j hjl (by omega)]; exact k2 j hj (by omega), ?_, fun he => ?_⟩
    · obtain ⟨d', hd'⟩ := hhold
      rw [holdP_at ha hinc (by simpa using k1) (fun j hj hij => by have := k2 j hij (by simpa using hj); simpa using this)] at hd'
      obtain ⟨h1, e⟩ := hget a (by omega)
      rw [e]
      simp only [Option.some.injEq] at hd'
      show (pd[a]).2 = _
      rw [hd']
    · rcases hec with h | ⟨w, hw, _, hwd⟩
      · omega
      · obtain ⟨q, hq⟩ := hend w hw hwd
        rw [hlen]
        rcases Nat.lt_or_ge (a + 1) pd.length with hlt | hge
        · exfalso
          have := k2 (pd.length - 1) (by omega) (by simp; omega)
          rw [List.getElem_map] at this
          have hlast : pd[pd.length - 1]'(by omega) = (endE (forceD o), Ti.zero) := by
            have : pd.getLast? = some (endE (forceD o), Ti.zero) := by rw [hq, List.getLast?_concat]
            rw [List.getLast?_eq_getElem?, List.getElem?_eq_getElem (by omega)] at this
            exact Option.some.inj this
          rw [hlast] at this
          simp only at this
          omega
        · omega
end Go.Proofs.YtojckjngjfgfdaaGreat
