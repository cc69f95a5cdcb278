/- Lemmas of our own, no statement of the seat; the last one of the claim's texts proves the law. -/
import Derived.Shelf.SortM.Plain
import Derived.Shelf.SortM.SortNone
import Derived.Ground.SlgmProg
import Derived.Test.YtdgndfabdmecmaaGreatBzd
import Derived.Test.YtdgndfabdmecmaaGreatVcI
import Derived.Test.YtdgndfabdmecmaaGreatBzc
import Derived.Test.YtdgndfabdmecmaaGreatBzb
open Nat renaming reduceEqDiff → Qa, reduceAdd → Qb, reduceMul → Qc, reduceLeDiff → Qd, reduceLT → Qe, reduceBNe → Qf
open Int renaming reduceLE → Ja, reduceLT → Jb, reduceToNat → Jc, cast_ofNat_Int → Jd, reduceEq → Je, reduceNe → Jf
set_option linter.unusedSimpArgs false
set_option linter.unusedVariables false
namespace Go.Proofs.YtdgndfabdmecmaaGreat
set_option linter.unusedSectionVars false
variable [Go.Proofs.YtdgndfabdmecmaaGreat.Vc.Drew]
open Go.Proofs.YtdgndfabdmecmaaGreat.Vc
/-! ### What the law asks of Merge's parts: plain facts -/
theorem last_le (l : List Int) (x : Int) : ∀ n, 1 ≤ n → (hn : n ≤ l.length) → (∀ h : 0 < l.length, l[0] ≤ x) → ∃ i, ∃ hi : i < n, l[i] ≤ x ∧ ∀ j, i < j → (hj : j < n) → x < l[j]
 | 0, h, _, _ => by omega
 | 1, _, hn, h0 => ⟨0, by omega, h0 (by omega), fun j h1 h2 => by omega⟩
 | n + 2, _, hn, h0 => by
  by_cases hx : l[n + 1] ≤ x
  ·exact ⟨n + 1, by omega, hx, fun j h1 h2 => by omega⟩
  ·obtain ⟨i, hi, h1, h2⟩ := last_le l x (n + 1) (by omega) (by omega) h0
   refine ⟨i, by omega, h1, fun j hj hjn => ?_⟩
   by_cases hjn' : j = n + 1
   ·subst hjn'; omega
   ·exact h2 j hj (by omega)
theorem partAt_spec {l : List Int} (h : Inc l) (hr : ∃ r, l = 0 :: r) {x : Int} (hx : 0 ≤ x) : ∃ hi : partAt l x < l.length, l[partAt l x] ≤ x ∧ ∀ j, partAt l x < j → (hj : j < l.length) → x < l[j] := by
 obtain ⟨r, hr⟩ := hr
 obtain ⟨i, hi, h1, h2⟩ := last_le l x l.length (by rw [hr]; simp) (Nat.le_refl _) (fun h => by subst hr; simpa using hx)
 have := partAt_eq h hi x h1 fun j hj hij => h2 j hij hj
 simp only [this]
 exact ⟨hi, h1, h2⟩
theorem merge_get {s : Se} {rl : List Nd} {ms : List Mv} {o : List De} {i : Nat} (h : i < (mergeP s rl ms o).length) : ∃ h' : i < (partsD s rl (forceD o) (endE (forceD o))).length,
  (mergeP s rl ms o)[i] = ⟨((partsD s rl (forceD o) (endE (forceD o)))[i]).1, ((partsD s rl (forceD o) (endE (forceD o)))[i]).2, (sortM (movesD ms (forceD o) (endE (forceD o)))).filter fun m => decide (partAt ((partsD s rl (forceD o) (endE (forceD o))).map (·.1)) m.day = i)⟩ := by
 have h' : i < (partsD s rl (forceD o) (endE (forceD o))).length := by rw [mergeP_len] at h; exact h
 obtain ⟨p, hp, he⟩ := mergeP_at (List.getElem?_eq_getElem h)
 rw [List.getElem?_eq_getElem h'] at hp
 cases hp
 exact ⟨h', he⟩
theorem Inc.lt {l : List Int} (h : Inc l) {i j : Nat} (hij : i < j) (hj : j < l.length) : l[i] < l[j] := List.pairwise_iff_getElem.1 h i j (by omega) hj hij
def PartsF (pp : List Pa) (x e : Int) (t : Ti) : Prop :=
  (∀ i j (hj : j < pp.length) (hij : i < j), (pp[i]).day < (pp[j]).day) ∧ (∃ h : 0 < pp.length, (pp[0]).day = 0) ∧ (∀ i (h : i + 1 < pp.length), (pp[i]).ti ≠ (pp[i + 1]).ti) ∧
  (∀ i (h : i < pp.length), (∀ m ∈ (pp[i]).moves, (pp[i]).day ≤ m.day ∧ ∀ h : i + 1 < pp.length, m.day < (pp[i + 1]).day) ∧ (pp[i]).moves.Pairwise fun a b => a.day < b.day) ∧
  ∃ a, ∃ h : a < pp.length, (pp[a]).day ≤ x ∧ (∀ j, a < j → (hj : j < pp.length) → x < (pp[j]).day) ∧ (pp[a]).ti = (if e ≤ x then Ti.zero else t) ∧ (e ≤ x → a + 1 = pp.length)
theorem merge_facts (s : Se) (rl : List Nd) (ms : List Mv) {o : List De} (hs : SortedD o) (hv : ∀ d ∈ o, validD d = true) (hm : movesOK none ms = true) (hl : 1 ≤ s.length) {x : Int} (hx : 0 ≤ x ∧ x ≤ 1099511627776) :
  PartsF (mergeP s rl ms o) x (endE (forceD o)) (tiOn s rl (forceD o) x) := by
 have hvf : ∀ d ∈ forceD o, validD d = true := fun d hd => hv d (mem_forceD.1 hd).1
 have hdays := partsD_days s rl (forceD o) (endE (forceD o)) (fun d hd => (valid_day (hvf d hd)).1)
 have hadj : AdjNe (partsD s rl (forceD o) (endE (forceD o))) := adj_go _ _ (fun d e => by
  have := tiOn_length s rl hvf hl d
  rw [e] at this; simp [Ti.zero] at this) _ _ (fun i hi => by simp at hi) (by simp)
 have hend : ∀ y ∈ forceD o, y.day = endE (forceD o) → ∃ q, partsD s rl (forceD o) (endE (forceD o)) = q ++ [(endE (forceD o), Ti.zero)] := fun y hy he => end_go _ _ _ _ (rising_inc _) (by rw [mem_rising, ← he]; exact List.mem_cons_of_mem _ (List.mem_map_of_mem hy))
 have hhold := force_hold s rl hs hv hx
 have hmday := movesD_day (e := endE (forceD o)) (movesOK_all hm) hvf
 have hmne := movesD_ne (e := endE (forceD o)) hs hv hm
 have hlen := mergeP_len s rl ms o
 have hget := fun i h => merge_get (s := s) (rl := rl) (ms := ms) (o := o) (i := i) h
 have hec := end_cases (o := o)
 generalize mergeP s rl ms o = pp at *
 generalize partsD s rl (forceD o) (endE (forceD o)) = pd at *
 unfold PartsF
 obtain ⟨hinc, hzero, _⟩ := hdays
 have hday : ∀ i (h : i < pp.length) (h' : i < (pd.map (·.1)).length), (pp[i]).day = (pd.map (·.1))[i] := fun i h h' => by
  obtain ⟨h1, e⟩ := hget i h
  rw [e, List.getElem_map]
 have hl2 : (pd.map (·.1)).length = pp.length := by rw [hlen]; simp
 refine ⟨fun i j hj hij => ?_, ?_, fun i h => ?_, fun i h => ⟨fun m hm' => ?_, ?_⟩, ?_⟩
 ·rw [hday i (by omega) (by omega), hday j hj (by omega)]
  exact hinc.lt hij (by omega)
 ·obtain ⟨r, hr⟩ := hzero
  have h0 : 0 < pp.length := by rw [← hl2, hr]; simp
  refine ⟨h0, ?_⟩
  rw [hday 0 h0 (by omega)]
  simp only [hr, List.getElem_cons_zero]
 ·obtain ⟨h1, e1⟩ := hget i (by omega)
  obtain ⟨h2, e2⟩ := hget (i + 1) h
  rw [e1, e2]
  exact hadj i (by omega)
 ·obtain ⟨h1, e⟩ := hget i h
  rw [e] at hm'
  obtain ⟨hm1, hm2⟩ := List.mem_filter.1 hm'
  have hm0 := hmday m ((sortM_perm _).mem_iff.1 hm1)
  have hpa : partAt (pd.map (·.1)) m.day = i := by simpa using hm2
  obtain ⟨hi, k1, k2⟩ := partAt_spec hinc hzero hm0
  simp only [hpa] at hi k1 k2
  refine ⟨by rw [hday i h hi]; exact k1, fun h2 => ?_⟩
  rw [hday (i + 1) h2 (by omega)]
  exact k2 (i + 1) (by omega) (by omega)
 ·obtain ⟨h1, e⟩ := hget i h
  rw [e]
  refine List.Pairwise.sublist List.filter_sublist ?_
  have h1 := sortM_le (movesD ms (forceD o) (endE (forceD o)))
  have h2 := (sortM_perm (movesD ms (forceD o) (endE (forceD o)))).symm.pairwise hmne (fun h => fun e => h e.symm)
  exact h1.imp₂ (fun a b => fun (h1 : a.day ≤ b.day) (h2 : a.day ≠ b.day) => by omega) h2
 ·obtain ⟨hi, k1, k2⟩ := partAt_spec hinc hzero hx.1
  generalize partAt (pd.map (·.1)) x = a at *
  have ha : a < pd.length := by simpa using hi
  refine ⟨a, by omega, by rw [hday a (by omega) hi]; exact k1, fun j hj hjl => by rw [hday j hjl (by omega)]; exact k2 j hj (by omega), ?_, fun he => ?_⟩
  ·obtain ⟨d', hd'⟩ := hhold
   rw [holdP_at ha hinc (by simpa using k1) (fun j hj hij => by have := k2 j hij (by simpa using hj); simpa using this)] at hd'
   obtain ⟨h1, e⟩ := hget a (by omega)
   rw [e]
   simp only [Option.some.injEq] at hd'
   show (pd[a]).2 = _
   rw [hd']
  ·rcases hec with h | ⟨w, hw, _, hwd⟩
   ·omega
   ·obtain ⟨q, hq⟩ := hend w hw hwd
    rw [hlen]
    rcases Nat.lt_or_ge (a + 1) pd.length with hlt | hge
    ·exfalso
     have := k2 (pd.length - 1) (by omega) (by simp; omega)
     rw [List.getElem_map] at this
     have hlast : pd[pd.length - 1]'(by omega) = (endE (forceD o), Ti.zero) := by
      have : pd.getLast? = some (endE (forceD o), Ti.zero) := by rw [hq, List.getLast?_concat]
      rw [List.getLast?_eq_getElem?, List.getElem?_eq_getElem (by omega)] at this
      exact Option.some.inj this
     rw [hlast] at this
     simp only at this
     omega
    ·omega
end Go.Proofs.YtdgndfabdmecmaaGreat
namespace Go.Proofs.YtdgndfabdmecmaaGreat
set_option linter.unusedSectionVars false
variable [Go.Proofs.YtdgndfabdmecmaaGreat.Vc.Drew]
open Go.Proofs.YtdgndfabdmecmaaGreat.Vc
structure Tr where
 pos : Int
 off : Int
 deriving DecidableEq
def Tr.cells (t : Tr) : List Value := [.int .i64 t.pos, .int .i64 t.off]
def Asc (l : List Tr) : Prop := l.Pairwise fun a b => a.pos < b.pos
def lastTr (l : List Tr) (t : Int) : Option Tr := (l.filter fun x => decide (x.pos ≤ t)).getLast?
theorem lastTr_split {l : List Tr} {t : Int} (k : Nat) (hk : k ≤ l.length) (h1 : ∀ a (h : a < l.length), a < k → l[a].pos ≤ t) (h2 : ∀ a (h : a < l.length), k ≤ a → t < l[a].pos) : lastTr l t = (l.take k).getLast? := by
 unfold lastTr
 congr 1
 conv => lhs; rw [← List.take_append_drop k l]
 rw [List.filter_append]
 have e1 : (l.take k).filter (fun x => decide (x.pos ≤ t)) = l.take k := List.filter_eq_self.2 fun x hx => by
  obtain ⟨i, hi, rfl⟩ := List.mem_iff_getElem.1 hx
  rw [List.length_take] at hi
  rw [List.getElem_take]
  exact decide_eq_true (h1 i (by omega) (by omega))
 have e2 : (l.drop k).filter (fun x => decide (x.pos ≤ t)) = [] := List.filter_eq_nil_iff.2 fun x hx => by
  obtain ⟨i, hi, rfl⟩ := List.mem_iff_getElem.1 hx
  rw [List.length_drop] at hi
  rw [List.getElem_drop]
  have := h2 (k + i) (by omega) (by omega)
  simp only [decide_eq_true_eq]
  omega
 rw [e1, e2, List.append_nil]
theorem lastTr_search {l : List Tr} {t : Int} {i : Nat} {b : Bool} (ha : Asc l) (h1 : i ≤ l.length) (h2 : ∀ a (h : a < l.length), a < i → l[a].pos < t) (h3 : ∀ a (h : a < l.length), i ≤ a → t ≤ l[a].pos) (h4 : b = true ↔ ∃ h : i < l.length, l[i].pos = t) :
  (b = true → ∃ h : i < l.length, lastTr l t = some l[i]) ∧ (b = false → i = 0 → lastTr l t = none) ∧ (b = false → ∀ h : 0 < i, lastTr l t = some (l[i - 1]'(by omega))) := by
 refine ⟨fun hb => ?_, fun hb h0 => ?_, fun hb h0 => ?_⟩
 ·obtain ⟨hi, e⟩ := h4.1 hb
  refine ⟨hi, ?_⟩
  rw [lastTr_split (i + 1) (by omega) (fun a h hlt => ?_) (fun a h hle => ?_)]
  ·rw [List.take_succ_eq_append_getElem hi, List.getLast?_append]; simp
  ·by_cases hai : a = i
   ·subst hai; omega
   ·have := h2 a h (by omega); omega
  ·have := (List.pairwise_iff_getElem.1 ha) i a hi h (by omega)
   omega
 ·subst h0
  rw [lastTr_split 0 (by omega) (fun a h hlt => by omega) (fun a h hle => ?_)]
  ·simp
  ·have h5 := h3 a h (by omega)
   by_cases e : l[a].pos = t
   ·by_cases ha0 : a = 0
    ·subst ha0
     exact absurd (h4.2 ⟨h, e⟩) (by rw [hb]; simp)
    ·have h6 := (List.pairwise_iff_getElem.1 ha) 0 a (by omega) h (by omega)
     have h7 := h3 0 (by omega) (by omega)
     omega
   ·omega
 ·rw [lastTr_split i h1 (fun a h hlt => by have := h2 a h hlt; omega) (fun a h hle => ?_)]
  ·obtain ⟨k, rfl⟩ : ∃ k, i = k + 1 := ⟨i - 1, by omega⟩
   rw [List.take_succ_eq_append_getElem (by omega), List.getLast?_append]; simp
  ·have h5 := h3 a h (by omega)
   by_cases e : l[a].pos = t
   ·by_cases hai : a = i
    ·subst hai
     exact absurd (h4.2 ⟨h, e⟩) (by rw [hb]; simp)
    ·have h6 := (List.pairwise_iff_getElem.1 ha) i a (by omega) h (by omega)
     have h7 := h3 i (by omega) (by omega)
     omega
   ·omega
theorem lastTr_mem {l : List Tr} {t : Int} {x : Tr} (h : lastTr l t = some x) : x ∈ l ∧ x.pos ≤ t := by
 have := List.mem_of_getLast? h
 rw [List.mem_filter] at this
 exact ⟨this.1, by simpa using this.2⟩
structure Ck where
 trans : List Tr
 ys : List Tr
 cycle : Int
 start : Int
 horizon : Int
def Ck.first (k : Ck) : Int := match k.ys with | [] => 0 | x :: _ => x.pos
def Ck.mins (k : Ck) : Int := k.cycle * 1440
def Ck.base (k : Ck) (t : Int) : Int := (max (t - k.first) 0) / k.mins * k.mins
def lastY (k : Ck) (t : Int) : Option Tr :=
 if k.ys = [] ∨ t < k.first then none else
  match lastTr k.ys (t - k.base t) with
  | some x => if k.horizon ≤ x.pos + k.base t then some ⟨x.pos + k.base t, x.off⟩ else none
  | none => none
def lastC (k : Ck) (t : Int) : Option Tr := match lastY k t with
 | some x => some x
 | none => lastTr k.trans t
def offC (k : Ck) (t : Int) : Int := match lastC k t with
 | some x => x.off
 | none => k.start
structure CkOK (k : Ck) : Prop where
 trans : Asc k.trans
 ys : Asc k.ys
 cyc : 1 ≤ k.cycle ∧ k.cycle ≤ 1000000000
 start : -1080 ≤ k.start ∧ k.start ≤ 1080
 hor : -2251799813685248 ≤ k.horizon ∧ k.horizon ≤ 2251799813685248
 toff : ∀ x ∈ k.trans, -1080 ≤ x.off ∧ x.off ≤ 1080
 yoff : ∀ x ∈ k.ys, -1080 ≤ x.off ∧ x.off ≤ 1080
 tpos : ∀ x ∈ k.trans, -2251799813685248 ≤ x.pos ∧ x.pos ≤ 2251799813685248
 ypos : ∀ x ∈ k.ys, -2251799813685248 ≤ x.pos ∧ x.pos ≤ 2251799813685248
theorem first_mem {k : Ck} (h : k.ys ≠ []) : ∃ x ∈ k.ys, x.pos = k.first := by
 unfold Ck.first
 cases hy : k.ys with
 | nil => exact absurd hy h
 | cons x r => exact ⟨x, by simp, rfl⟩
theorem first_get {k : Ck} (h : 0 < k.ys.length) : (k.ys[0]'h).pos = k.first := by
 obtain ⟨tr, ys, c, s, hz⟩ := k
 cases ys with
 | nil => simp at h
 | cons x r => rfl
theorem base_pos {k : Ck} (hk : CkOK k) (t : Int) : 0 ≤ k.base t := by
 unfold Ck.base Ck.mins
 have := hk.cyc
 exact Int.mul_nonneg (Int.ediv_nonneg (by omega) (by omega)) (by omega)
theorem base_le {k : Ck} (hk : CkOK k) {t : Int} (ht : k.first ≤ t) : k.base t ≤ t - k.first := by
 unfold Ck.base Ck.mins
 have := hk.cyc
 have h1 := Int.ediv_mul_le (max (t - k.first) 0) (show k.cycle * 1440 ≠ 0 by omega)
 omega
theorem lastY_le {k : Ck} {t : Int} {x : Tr} (h : lastY k t = some x) : x.pos ≤ t := by
 unfold lastY at h
 split at h
 ·cases h
 ·split at h
  ·rename_i y hy
   split at h
   ·simp only [Option.some.injEq] at h
    subst h
    have := (lastTr_mem hy).2
    simp only
    omega
   ·cases h
  ·cases h
theorem lastY_off {k : Ck} (hk : CkOK k) {t : Int} {x : Tr} (h : lastY k t = some x) : -1080 ≤ x.off ∧ x.off ≤ 1080 := by
 unfold lastY at h
 split at h
 ·cases h
 ·split at h
  ·rename_i y hy
   split at h
   ·simp only [Option.some.injEq] at h
    subst h
    exact hk.yoff y (lastTr_mem hy).1
   ·cases h
  ·cases h
theorem lastY_ge {k : Ck} (hk : CkOK k) {t : Int} {x : Tr} (h : lastY k t = some x) : -2251799813685248 ≤ x.pos := by
 unfold lastY at h
 split at h
 ·cases h
 ·split at h
  ·rename_i y hy
   split at h
   ·rename_i hh
    simp only [Option.some.injEq] at h
    subst h
    have := hk.hor
    simp only
    omega
   ·cases h
  ·cases h
theorem lastC_facts {k : Ck} (hk : CkOK k) {t : Int} {x : Tr} (h : lastC k t = some x) : x.pos ≤ t ∧ -2251799813685248 ≤ x.pos ∧ (-1080 ≤ x.off ∧ x.off ≤ 1080) := by
 unfold lastC at h
 split at h
 ·rename_i y hy
  cases h
  exact ⟨lastY_le hy, lastY_ge hk hy, lastY_off hk hy⟩
 ·obtain ⟨h1, h2⟩ := lastTr_mem h
  exact ⟨h2, (hk.tpos x h1).1, hk.toff x h1⟩
theorem offC_bd {k : Ck} (hk : CkOK k) (t : Int) : -1080 ≤ offC k t ∧ offC k t ≤ 1080 := by
 unfold offC
 split
 ·rename_i x hx
  exact (lastC_facts hk hx).2.2
 ·exact hk.start
def sortI (l : List Int) : List Int := l.mergeSort fun a b => decide (a ≤ b)
def instF (k : Ck) (loc : Int) : Nat → Int → List Int → List Int × Int × Int
 | 0, _, l => (l, 0, 0)
 | f + 1, t, l => match lastC k t with
  | none => (sortI (if loc - offC k t ≤ t then l ++ [loc - offC k t] else l), 0, 0)
  | some y => if y.pos < loc - 1080 then (sortI (if loc - offC k t ≤ t ∧ y.pos ≤ loc - offC k t then l ++ [loc - offC k t] else l), 0, 0)
   else if y.pos + offC k (y.pos - 1) ≤ loc ∧ loc < y.pos + y.off then ([], y.pos, offC k (y.pos - 1))
   else instF k loc f (y.pos - 1) (if loc - offC k t ≤ t ∧ y.pos ≤ loc - offC k t then l ++ [loc - offC k t] else l)
def instC (k : Ck) (loc : Int) : List Int × Int × Int := instF k loc 2200 (loc + 1080) []
def polC (gap : Int) (r : List Int × Int × Int) (loc : Int) : List Int := if gap = 0 then [] else if gap = 1 then [loc - r.2.2] else [r.2.1]
def instsC (k : Ck) (loc gap fold : Int) : List Int :=
 if (instC k loc).1 = [] then polC gap (instC k loc) loc else if fold = 0 then (instC k loc).1.take 1 else if fold = 1 then (instC k loc).1.drop ((instC k loc).1.length - 1) else (instC k loc).1
structure Zv where
 ep : Int
 ma : Option Addr
 mn : Nat
 mc : Nat
 leap : Int
 ra : Option Addr
 rn : Nat
 rc : Nat
 start : Int
 ta : Option Addr
 tn : Nat
 tc : Nat
 hor : Int
 ya : Option Addr
 yn : Nat
 yc : Nat
def Zv.cells (z : Zv) : List Value := [.int .i64 z.ep, .slice z.ma z.mn z.mc, .int .i64 z.leap, .slice z.ra z.rn z.rc, .int .i64 z.start, .slice z.ta z.tn z.tc, .int .i64 z.hor, .slice z.ya z.yn z.yc]
def rowTr (l : List Tr) : List Value := (l.map Tr.cells).flatten
end Go.Proofs.YtdgndfabdmecmaaGreat
namespace Go.Proofs.YtdgndfabdmecmaaGreat
set_option linter.unusedSectionVars false
variable [Go.Proofs.YtdgndfabdmecmaaGreat.Vc.Drew]
open Go.Proofs.YtdgndfabdmecmaaGreat.Vc
abbrev TrV := EncV Tr.cells 2
structure CkV (R : RO) (ad : Addr) (k : Ck) (ta : Option Addr) (tc : Nat) (ya : Option Addr) (yc : Nat) : Prop where
 start : R (ad.add 4) (.int .i64 k.start)
 trans : R (ad.add 5) (.slice ta k.trans.length tc)
 transV : TrV R (.slice ta k.trans.length tc) k.trans
 hor : R (ad.add 6) (.int .i64 k.horizon)
 ys : R (ad.add 8) (.slice ya k.ys.length yc)
 ysV : TrV R (.slice ya k.ys.length yc) k.ys
 cyc : R (ad.add 9) (.int .i64 k.cycle)
theorem CkV.mono {R R' : RO} {ad : Addr} {k : Ck} {ta : Option Addr} {tc : Nat} {ya : Option Addr} {yc : Nat} (h : CkV R ad k ta tc ya yc) (hle : RO.le R R') : CkV R' ad k ta tc ya yc :=
 ⟨hle _ _ h.start, hle _ _ h.trans, h.transV.mono hle, hle _ _ h.hor, hle _ _ h.ys, h.ysV.mono hle, hle _ _ h.cyc⟩
theorem zMinutes (k : Ck) (hk : CkOK k) (ad : Addr) (ta : Option Addr) (tc : Nat) (ya : Option Addr) (yc : Nat) (R : RO) (h : CkV R ad k ta tc ya yc) : CallsR Tryz.prog 160 [.pointer (some ad)] R fun _ v => v = .int .i64 k.mins := by
 have hc := hk.cyc
 refine callsT mix Tryz.func160 comp160 (by simp [Tryz.ntmps160]) ?_; simp only [go_sem, ↓reduceIte, Qa, Qb, Qc, Qd, Qe, Qf, reduceCtorEq, vc160, rs160]
 refine vload _ h.cyc ?_
 try simp only [go_sem, ↓reduceIte, Qa, Qb, Qc, Qd, Qe, Qf, reduceCtorEq]
 exact ⟨_, W.in64 (by omega), rfl⟩
theorem zRound (k : Ck) (hk : CkOK k) (hy : k.ys ≠ []) (t : Int) (ht : -4503599627370496 ≤ t ∧ t ≤ 4503599627370496) (ad : Addr) (ta : Option Addr) (tc : Nat) (ya : Option Addr) (yc : Nat) (R : RO) (h : CkV R ad k ta tc ya yc) :
  CallsR Tryz.prog 162 [.pointer (some ad), .int .i64 t] R fun _ v => v = .int .i64 (max (t - k.first) 0 / k.mins) := by
 have hc := hk.cyc
 obtain ⟨a, cap, e, _, hf⟩ := h.ysV.form
 simp only [Value.slice.injEq] at e
 obtain ⟨rfl, _, rfl⟩ := e
 obtain ⟨x, hx, hxp⟩ := first_mem hy
 have hxb := hk.ypos x hx
 have hl : 0 < k.ys.length := List.length_pos_iff.2 hy
 obtain ⟨ya', rfl, hR⟩ := hf 0 hl
 have h0 := hR 0 (.int .i64 k.first) (by rw [← first_get hl]; rfl)
 rw [Addr.add_zero'] at h0
 have hM := fun R' (hle : RO.le R R') => zMinutes k hk ad ta tc (some ya') yc R' (h.mono hle)
 refine callsT mix Tryz.func162 comp162 (by simp [Tryz.ntmps162]) ?_; simp only [go_sem, ↓reduceIte, Qa, Qb, Qc, Qd, Qe, Qf, reduceCtorEq, vc162, rs162]
 refine vload _ h.ys ?_
 try simp only [go_sem, ↓reduceIte, Qa, Qb, Qc, Qd, Qe, Qf, reduceCtorEq]
 refine ⟨by omega, by omega, ?_⟩
 refine vload _ h0 ?_
 try simp only [go_sem, ↓reduceIte, Qa, Qb, Qc, Qd, Qe, Qf, reduceCtorEq]
 refine ⟨_, W.in64 (by omega), ?_⟩
 refine vcall (hM R (RO.le_refl R)) ?_
 rintro R1 r hle1 rfl
 try simp only [go_sem, ↓reduceIte, Qa, Qb, Qc, Qd, Qe, Qf, reduceCtorEq]
 have hm : k.mins = k.cycle * 1440 := rfl
 have hq : (max (t - k.first) 0).tdiv k.mins = max (t - k.first) 0 / k.mins := Int.tdiv_eq_ediv_of_nonneg (by omega)
 have hq2 : 0 ≤ max (t - k.first) 0 / k.mins := Int.ediv_nonneg (by omega) (by omega)
 have hq3 : max (t - k.first) 0 / k.mins ≤ max (t - k.first) 0 := Int.ediv_le_self _ (by omega)
 rw [hq]
 exact ⟨by omega, _, W.in64 (by omega), rfl⟩
theorem zLastCmp (x : Tr) (t : Int) (R : RO) : CallsR Tryz.prog 191 [.agg x.cells.toArray, .int .i64 t] R fun _ v => v = .int .i64 (cmpI x.pos t) := by
 simp only [Tr.cells]
 refine callsT mix Tryz.func191 comp191 (by simp [Tryz.ntmps191]) ?_; simp only [go_sem, ↓reduceIte, Qa, Qb, Qc, Qd, Qe, Qf, reduceCtorEq, vc191, rs191]
 refine vcall (eCompare x.pos t R) ?_
 rintro R1 v h1 rfl
 try simp only [go_sem, ↓reduceIte, Qa, Qb, Qc, Qd, Qe, Qf, reduceCtorEq]
structure SearchP (l : List Tr) (t : Int) (i : Nat) (b : Bool) : Prop where
 le : i ≤ l.length
 lt : ∀ a (h : a < l.length), a < i → l[a].pos < t
 ge : ∀ a (h : a < l.length), i ≤ a → t ≤ l[a].pos
 ok : b = true ↔ ∃ h : i < l.length, l[i].pos = t
theorem cmpI_lt (a b : Int) : cmpI a b < 0 ↔ a < b := by
 unfold cmpI
 split
 ·simp [*]
 ·split <;> simp <;> omega
theorem cmpI_eq (a b : Int) : cmpI a b = 0 ↔ a = b := by
 unfold cmpI
 split
 ·simp; omega
 ·split <;> simp <;> omega
theorem hbLast : hasBody Tryz.prog 191 = true := by kernel_rfl
theorem zSearch (l : List Tr) (ha : Asc l) (t : Int) (v : Value) (R : RO) (h : TrV R v l) : CallsR Tryz.prog 192 [v, .int .i64 t, .func (.func 191) #[] #[]] R fun _ r => ∃ (i : Nat) (b : Bool), r = .tuple #[.int .i64 i, .bool b] ∧ SearchP l t i b := by
 have hl := h.2
 obtain ⟨a, cap, rfl, hc, hf⟩ := h.form
 refine callsT mix Tryz.func192 comp192 (by simp [Tryz.ntmps192]) ?_; simp only [go_sem, ↓reduceIte, Qa, Qb, Qc, Qd, Qe, Qf, reduceCtorEq, vc192, rs192]
 refine vcLoop (Nat × Nat) (fun x => [(9, .val (.int .i64 x.1)), (10, .val (.int .i64 x.2)), (8, .val (.int .i64 l.length)), (0, .val (.slice a l.length cap)), (1, .val (.int .i64 t)), (2, .val (.func (.func 191) #[] #[]))]) (fun _ => [])
  (fun x _ => x.1 ≤ x.2 ∧ x.2 ≤ l.length ∧ (∀ a (h : a < l.length), a < x.1 → l[a].pos < t) ∧ ∀ a (h : a < l.length), x.2 ≤ a → t ≤ l[a].pos) (fun x => x.2 - x.1) (0, l.length) ?_ ?_ ?_ ?_
 ·(try simp only [go_sem, ↓reduceIte, Qa, Qb, Qc, Qd, Qe, Qf, reduceCtorEq]) <;> (repeat' (first | rfl | trivial | constructor | (intro h; exact absurd rfl h)))
 ·try simp only [go_sem, ↓reduceIte, Qa, Qb, Qc, Qd, Qe, Qf, reduceCtorEq]
 ·exact ⟨Nat.zero_le _, Nat.le_refl _, fun a h h' => absurd h' (Nat.not_lt_zero _), fun a h h' => by dsimp only at h'; omega⟩
 rintro ⟨i, j⟩ env R1 hle1 hE ⟨hij, hj, h1, h2⟩
 simp only at hE hij hj h1 h2
 (simp only [go_sem] at hE; obtain ⟨e9, e10, e8, e0, e1, e2⟩ := hE; simp only [go_sem, ↓reduceIte, Qa, Qb, Qc, Qd, Qe, Qf, reduceCtorEq, e9, e10, e8, e0, e1, e2]; dsimp only at *)
 refine ⟨fun hlt => ?_, fun hge => ?_⟩
 ·have hm1 : i ≤ (i + j) / 2 := by omega
  have hm2 : (i + j) / 2 < j := by omega
  obtain ⟨m, hm⟩ : ∃ m, m = (i + j) / 2 := ⟨_, rfl⟩
  rw [← hm] at hm1 hm2
  have hfd : ((i : Int) + j).fdiv (2 ^ min (Int.toNat 1) 64) = m := by
   rw [show (2 : Int) ^ min (Int.toNat 1) 64 = 2 from rfl, Int.fdiv_eq_ediv_of_nonneg _ (by omega)]; omega
  have hml : m < l.length := by omega
  obtain ⟨ad, had, hR⟩ := hf m hml
  refine ⟨_, W.in64 (by omega), (i : Int) + j, ?_, by omega, m, ?_, by omega, by omega, ?_⟩
  ·exact W.u64 (by omega)
  ·rw [hfd]; exact W.in64 (by omega)
  rw [Int.toNat_natCast]
  refine vat ad had ?_
  try simp only [go_sem, ↓reduceIte, Qa, Qb, Qc, Qd, Qe, Qf, reduceCtorEq]
  refine vloadn l[m].cells rfl (fun k u hk => hle1 _ _ (hR k u hk)) ?_
  simp only [go_sem, ↓reduceIte, Qa, Qb, Qc, Qd, Qe, Qf, reduceCtorEq, e9, e10, e8, e0, e1, e2]
  refine ⟨hbLast, vcall (zLastCmp l[m] t R1) ?_⟩
  rintro R2 r hle2 rfl
  simp only [go_sem, ↓reduceIte, Qa, Qb, Qc, Qd, Qe, Qf, reduceCtorEq, e9, e10, e8, e0, e1, e2]
  have hcm := cmpI_lt l[m].pos t
  refine ⟨fun hlt2 => ?_, fun hge2 => ?_⟩
  ·refine ⟨_, W.in64 (by omega), (m + 1, j), by dsimp only; omega, ⟨by norm_cast, rfl⟩, by dsimp only; omega, hj, fun a h h' => ?_, h2⟩
   have hpm := hcm.1 hlt2
   by_cases ham : a = m
   ·subst ham; exact hpm
   ·have := (List.pairwise_iff_getElem.1 ha) a m h hml (by dsimp only at h'; omega)
    omega
  ·refine ⟨(i, m), by dsimp only; omega, ⟨rfl, rfl⟩, by dsimp only; omega, by dsimp only; omega, h1, fun a h h' => ?_⟩
   have hpm : t ≤ l[m].pos := by
    rcases Int.lt_or_le l[m].pos t with hh | hh
    ·exact absurd (hcm.2 hh) hge2
    ·exact hh
   by_cases ham : a = m
   ·subst ham; exact hpm
   ·have := (List.pairwise_iff_getElem.1 ha) m a hml h (by dsimp only at h'; omega)
    omega
 ·obtain rfl : i = j := by omega
  refine ⟨fun hlt => ⟨hlt, ?_⟩, fun hlt => ?_⟩
  ·have hlt' : i < l.length := by omega
   obtain ⟨ad, had, hR⟩ := hf i hlt'
   refine vat ad had ?_
   try simp only [go_sem, ↓reduceIte, Qa, Qb, Qc, Qd, Qe, Qf, reduceCtorEq]
   refine vloadn l[i].cells rfl (fun k u hk => hle1 _ _ (hR k u hk)) ?_
   simp only [go_sem, ↓reduceIte, Qa, Qb, Qc, Qd, Qe, Qf, reduceCtorEq, e9, e10, e8, e0, e1, e2]
   refine ⟨hbLast, vcall (zLastCmp l[i] t R1) ?_⟩
   rintro R2 r hle2 rfl
   simp only [go_sem, ↓reduceIte, Qa, Qb, Qc, Qd, Qe, Qf, reduceCtorEq, e9, e10, e8, e0, e1, e2]
   exact ⟨i, _, rfl, by omega, h1, h2, by rw [decide_eq_true_iff, cmpI_eq]; exact ⟨fun e => ⟨hlt', e⟩, fun ⟨_, e⟩ => e⟩⟩
  ·exact ⟨i, false, rfl, by omega, h1, h2, ⟨fun h => absurd h (by simp), fun ⟨h, _⟩ => absurd h (by omega)⟩⟩
def lastV : Option Tr → Value
 | some x => .tuple #[.agg x.cells.toArray, .bool true]
 | none => .tuple #[.agg #[.int .i64 0, .int .i64 0], .bool false]
set_option maxHeartbeats 2000000 in
theorem zLast (k : Ck) (hk : CkOK k) (t : Int) (ht : -4503599627370496 ≤ t ∧ t ≤ 4503599627370496) (ad : Addr) (ta : Option Addr) (tc : Nat) (ya : Option Addr) (yc : Nat) (R : RO) (h : CkV R ad k ta tc ya yc) :
  CallsR Tryz.prog 163 [.pointer (some ad), .int .i64 t] R fun _ r => r = lastV (lastC k t) := by
 have htl := h.transV.2
 have hyl := h.ysV.2
 obtain ⟨a1, c1, e1, _, htf⟩ := h.transV.form
 simp only [Value.slice.injEq, true_and] at e1
 obtain ⟨rfl, rfl⟩ := e1
 obtain ⟨a2, c2, e2, _, hyf⟩ := h.ysV.form
 simp only [Value.slice.injEq, true_and] at e2
 obtain ⟨rfl, rfl⟩ := e2
 by_cases hy : k.ys = []
 ·have hY : lastY k t = none := by unfold lastY; rw [if_pos (.inl hy)]
  have hC : lastC k t = lastTr k.trans t := by unfold lastC; rw [hY]
  have hl0 : k.ys.length = 0 := by rw [hy]; rfl
  rw [hC]
  have hys := h.ys
  rw [hl0] at hys
  refine callsT mix Tryz.func163 comp163 (by simp [Tryz.ntmps163]) ?_; simp only [go_sem, ↓reduceIte, Qa, Qb, Qc, Qd, Qe, Qf, reduceCtorEq, vc163, rs163]
  refine vload _ hys ?_
  try simp only [go_sem, ↓reduceIte, Qa, Qb, Qc, Qd, Qe, Qf, reduceCtorEq]
  refine ⟨fun h0 => absurd h0 (by simp), fun _ => ?_⟩
  refine vload _ h.trans ?_
  try simp only [go_sem, ↓reduceIte, Qa, Qb, Qc, Qd, Qe, Qf, reduceCtorEq]
  refine vcall (zSearch k.trans hk.trans t _ _ h.transV) ?_
  rintro R9 r hle9 ⟨i, b, rfl, hP⟩
  obtain ⟨s1, s2, s3⟩ := lastTr_search hk.trans hP.le hP.lt hP.ge hP.ok
  have hile := hP.le
  cases b with
  | true =>
   obtain ⟨hi, hx⟩ := s1 rfl
   obtain ⟨adx, had, hR⟩ := htf i hi
   try simp only [go_sem, ↓reduceIte, Qa, Qb, Qc, Qd, Qe, Qf, reduceCtorEq]
   first | refine ⟨fun h => absurd h (by omega), fun _ => vload _ (hle9 _ _ h.trans) ?_⟩ | refine fun _ => vload _ (hle9 _ _ h.trans) ?_
   try simp only [go_sem, ↓reduceIte, Qa, Qb, Qc, Qd, Qe, Qf, reduceCtorEq]
   refine ⟨by omega, vat adx had ?_⟩
   try simp only [go_sem, ↓reduceIte, Qa, Qb, Qc, Qd, Qe, Qf, reduceCtorEq]
   refine vloadn k.trans[i].cells rfl (fun j u hj => hle9 _ _ (id (hR j u hj))) ?_
   simp only [go_sem, ↓reduceIte, Qa, Qb, Qc, Qd, Qe, Qf, reduceCtorEq, Tr.cells]
   rw [hx]
   rfl
  | false =>
   by_cases hi0 : i = 0
   ·subst hi0
    try simp only [go_sem, ↓reduceIte, Qa, Qb, Qc, Qd, Qe, Qf, reduceCtorEq]
    refine ⟨_, W.in64 (by omega), fun _ => ?_, fun h => absurd h (by omega)⟩
    rw [s2 rfl rfl]
    rfl
   ·have hx := s3 rfl (by omega)
    obtain ⟨adx, had, hR⟩ := htf (i - 1) (by omega)
    try simp only [go_sem, ↓reduceIte, Qa, Qb, Qc, Qd, Qe, Qf, reduceCtorEq]
    refine ⟨_, W.in64 (by omega), fun h => absurd h (by omega), fun _ => vload _ (hle9 _ _ h.trans) ?_⟩
    try simp only [go_sem, ↓reduceIte, Qa, Qb, Qc, Qd, Qe, Qf, reduceCtorEq]
    rw [show ((i : Int) - 1).toNat = i - 1 by omega]
    refine ⟨by omega, by omega, vat adx had ?_⟩
    try simp only [go_sem, ↓reduceIte, Qa, Qb, Qc, Qd, Qe, Qf, reduceCtorEq]
    refine vloadn k.trans[i - 1].cells rfl (fun j u hj => hle9 _ _ (id (hR j u hj))) ?_
    simp only [go_sem, ↓reduceIte, Qa, Qb, Qc, Qd, Qe, Qf, reduceCtorEq, Tr.cells]
    rw [hx]
    rfl
 have hl0 : 0 < k.ys.length := List.length_pos_iff.2 hy
 obtain ⟨yad, hya, hyR⟩ := hyf 0 hl0
 have h0 := hyR 0 (.int .i64 k.first) (by rw [← first_get hl0]; rfl)
 rw [Addr.add_zero'] at h0
 obtain ⟨x0, hx0, hx0p⟩ := first_mem hy
 have hfb := hk.ypos x0 hx0
 rw [hx0p] at hfb
 have hRd := fun R' (hle : RO.le R R') => zRound k hk hy t ht ad ta tc ya yc R' (h.mono hle)
 have hMn := fun R' (hle : RO.le R R') => zMinutes k hk ad ta tc ya yc R' (h.mono hle)
 refine callsT mix Tryz.func163 comp163 (by simp [Tryz.ntmps163]) ?_; simp only [go_sem, ↓reduceIte, Qa, Qb, Qc, Qd, Qe, Qf, reduceCtorEq, vc163, rs163]
 refine vload _ h.ys ?_
 try simp only [go_sem, ↓reduceIte, Qa, Qb, Qc, Qd, Qe, Qf, reduceCtorEq]
 refine ⟨fun _ => ?_, fun h => absurd hl0 (by omega)⟩
 refine vload _ h.ys ?_
 try simp only [go_sem, ↓reduceIte, Qa, Qb, Qc, Qd, Qe, Qf, reduceCtorEq]
 refine ⟨by omega, by omega, vat yad hya ?_⟩
 try simp only [go_sem, ↓reduceIte, Qa, Qb, Qc, Qd, Qe, Qf, reduceCtorEq]
 refine vload _ h0 ?_
 try simp only [go_sem, ↓reduceIte, Qa, Qb, Qc, Qd, Qe, Qf, reduceCtorEq]
 refine ⟨fun hge => ?_, fun hlt => ?_⟩
 ·refine vcall (hRd R (RO.le_refl R)) ?_
  rintro R1 r hle1 rfl
  try simp only [go_sem, ↓reduceIte, Qa, Qb, Qc, Qd, Qe, Qf, reduceCtorEq]
  refine vcall (hMn R1 hle1) ?_
  rintro R2 r hle2 rfl
  have hb1 := base_pos hk t
  have hb2 := base_le hk (t := t) (by omega)
  try simp only [go_sem, ↓reduceIte, Qa, Qb, Qc, Qd, Qe, Qf, reduceCtorEq]
  have hbase : max (t - k.first) 0 / k.mins * k.mins = k.base t := rfl
  rw [hbase]
  refine ⟨_, W.in64 (by omega), ?_⟩
  refine vload _ (hle2 _ _ (hle1 _ _ h.ys)) ?_
  try simp only [go_sem, ↓reduceIte, Qa, Qb, Qc, Qd, Qe, Qf, reduceCtorEq]
  refine ⟨_, W.in64 (by omega), ?_⟩
  refine vcall (zSearch k.ys hk.ys (t - k.base t) _ _ (h.ysV.mono (RO.le_trans hle1 hle2))) ?_
  rintro R3 r hle9y ⟨i, b, rfl, hP⟩
  obtain ⟨s1, s2, s3⟩ := lastTr_search hk.ys hP.le hP.lt hP.ge hP.ok
  have hile := hP.le
  cases b with
  | true =>
   obtain ⟨hi, hx⟩ := s1 rfl
   try simp only [go_sem, ↓reduceIte, Qa, Qb, Qc, Qd, Qe, Qf, reduceCtorEq]
   refine vload _ (hle9y _ _ (hle2 _ _ (hle1 _ _ h.ys))) ?_
   try simp only [go_sem, ↓reduceIte, Qa, Qb, Qc, Qd, Qe, Qf, reduceCtorEq]
   obtain ⟨yad2, hya2, hyR2⟩ := hyf (i) (by omega)
   first | refine ⟨by omega, by omega, vat yad2 hya2 ?_⟩ | refine ⟨by omega, vat yad2 hya2 ?_⟩
   try simp only [go_sem, ↓reduceIte, Qa, Qb, Qc, Qd, Qe, Qf, reduceCtorEq]
   refine vloadn k.ys[i].cells rfl (fun j u hj => hle9y _ _ (hle2 _ _ (hle1 _ _ (hyR2 j u hj)))) ?_
   simp only [go_sem, ↓reduceIte, Qa, Qb, Qc, Qd, Qe, Qf, reduceCtorEq, Tr.cells]
   have hyb := hk.ypos _ (List.getElem_mem (by omega : i < k.ys.length))
   have hle0 := (lastTr_mem hx).2
   have hho := hk.hor
   refine ⟨_, W.in64 (by omega), ?_⟩
   refine vload _ (hle9y _ _ (hle2 _ _ (hle1 _ _ h.hor))) ?_
   try simp only [go_sem, ↓reduceIte, Qa, Qb, Qc, Qd, Qe, Qf, reduceCtorEq]
   refine ⟨fun hhor => ?_, fun hhor => ?_⟩
   ·have hC : lastC k t = some ⟨k.ys[i].pos + k.base t, k.ys[i].off⟩ := by
     unfold lastC lastY
     rw [if_neg (by rintro (h | h); exact hy h; omega), hx]
     simp only
     rw [if_pos (by omega)]
    rw [hC]
    first | rfl | exact ⟨_, W.in64 (by omega), rfl⟩
   ·have hC : lastC k t = lastTr k.trans t := by
     unfold lastC lastY
     rw [if_neg (by rintro (h | h); exact hy h; omega), hx]
     simp only
     rw [if_neg (by omega)]
    rw [hC]
    have h' := h.mono (RO.le_trans hle1 (RO.le_trans hle2 hle9y))
    have hlex := RO.le_trans hle1 (RO.le_trans hle2 hle9y)
    refine vload _ h'.trans ?_
    try simp only [go_sem, ↓reduceIte, Qa, Qb, Qc, Qd, Qe, Qf, reduceCtorEq]
    refine vcall (zSearch k.trans hk.trans t _ _ h'.transV) ?_
    rintro R9 r hle9 ⟨i, b, rfl, hP⟩
    obtain ⟨s1, s2, s3⟩ := lastTr_search hk.trans hP.le hP.lt hP.ge hP.ok
    have hile := hP.le
    cases b with
    | true =>
     obtain ⟨hi, hx⟩ := s1 rfl
     obtain ⟨adx, had, hR⟩ := htf i hi
     try simp only [go_sem, ↓reduceIte, Qa, Qb, Qc, Qd, Qe, Qf, reduceCtorEq]
     first | refine ⟨fun h => absurd h (by omega), fun _ => vload _ (hle9 _ _ h'.trans) ?_⟩ | refine fun _ => vload _ (hle9 _ _ h'.trans) ?_
     try simp only [go_sem, ↓reduceIte, Qa, Qb, Qc, Qd, Qe, Qf, reduceCtorEq]
     refine ⟨by omega, vat adx had ?_⟩
     try simp only [go_sem, ↓reduceIte, Qa, Qb, Qc, Qd, Qe, Qf, reduceCtorEq]
     refine vloadn k.trans[i].cells rfl (fun j u hj => hle9 _ _ (hlex _ _ (hR j u hj))) ?_
     simp only [go_sem, ↓reduceIte, Qa, Qb, Qc, Qd, Qe, Qf, reduceCtorEq, Tr.cells]
     rw [hx]
     rfl
    | false =>
     by_cases hi0 : i = 0
     ·subst hi0
      try simp only [go_sem, ↓reduceIte, Qa, Qb, Qc, Qd, Qe, Qf, reduceCtorEq]
      refine ⟨_, W.in64 (by omega), fun _ => ?_, fun h => absurd h (by omega)⟩
      rw [s2 rfl rfl]
      rfl
     ·have hx := s3 rfl (by omega)
      obtain ⟨adx, had, hR⟩ := htf (i - 1) (by omega)
      try simp only [go_sem, ↓reduceIte, Qa, Qb, Qc, Qd, Qe, Qf, reduceCtorEq]
      refine ⟨_, W.in64 (by omega), fun h => absurd h (by omega), fun _ => vload _ (hle9 _ _ h'.trans) ?_⟩
      try simp only [go_sem, ↓reduceIte, Qa, Qb, Qc, Qd, Qe, Qf, reduceCtorEq]
      rw [show ((i : Int) - 1).toNat = i - 1 by omega]
      refine ⟨by omega, by omega, vat adx had ?_⟩
      try simp only [go_sem, ↓reduceIte, Qa, Qb, Qc, Qd, Qe, Qf, reduceCtorEq]
      refine vloadn k.trans[i - 1].cells rfl (fun j u hj => hle9 _ _ (hlex _ _ (hR j u hj))) ?_
      simp only [go_sem, ↓reduceIte, Qa, Qb, Qc, Qd, Qe, Qf, reduceCtorEq, Tr.cells]
      rw [hx]
      rfl
  | false =>
   have hi0 : i ≠ 0 := by
    rintro rfl
    have g1 := hP.ge 0 hl0 (Nat.le_refl _)
    have g2 := first_get hl0
    have := hP.ok.2 ⟨hl0, by omega⟩
    exact absurd this (by simp)
   have hx := s3 rfl (by omega)
   try simp only [go_sem, ↓reduceIte, Qa, Qb, Qc, Qd, Qe, Qf, reduceCtorEq]
   refine ⟨_, W.in64 (by omega), vload _ (hle9y _ _ (hle2 _ _ (hle1 _ _ h.ys))) ?_⟩
   try simp only [go_sem, ↓reduceIte, Qa, Qb, Qc, Qd, Qe, Qf, reduceCtorEq]
   rw [show ((i : Int) - 1).toNat = i - 1 by omega]
   obtain ⟨yad2, hya2, hyR2⟩ := hyf (i - 1) (by omega)
   first | refine ⟨by omega, by omega, vat yad2 hya2 ?_⟩ | refine ⟨by omega, vat yad2 hya2 ?_⟩
   try simp only [go_sem, ↓reduceIte, Qa, Qb, Qc, Qd, Qe, Qf, reduceCtorEq]
   refine vloadn k.ys[i - 1].cells rfl (fun j u hj => hle9y _ _ (hle2 _ _ (hle1 _ _ (hyR2 j u hj)))) ?_
   simp only [go_sem, ↓reduceIte, Qa, Qb, Qc, Qd, Qe, Qf, reduceCtorEq, Tr.cells]
   have hyb := hk.ypos _ (List.getElem_mem (by omega : i - 1 < k.ys.length))
   have hle0 := (lastTr_mem hx).2
   have hho := hk.hor
   refine ⟨_, W.in64 (by omega), ?_⟩
   refine vload _ (hle9y _ _ (hle2 _ _ (hle1 _ _ h.hor))) ?_
   try simp only [go_sem, ↓reduceIte, Qa, Qb, Qc, Qd, Qe, Qf, reduceCtorEq]
   refine ⟨fun hhor => ?_, fun hhor => ?_⟩
   ·have hC : lastC k t = some ⟨k.ys[i - 1].pos + k.base t, k.ys[i - 1].off⟩ := by
     unfold lastC lastY
     rw [if_neg (by rintro (h | h); exact hy h; omega), hx]
     simp only
     rw [if_pos (by omega)]
    rw [hC]
    first | rfl | exact ⟨_, W.in64 (by omega), rfl⟩
   ·have hC : lastC k t = lastTr k.trans t := by
     unfold lastC lastY
     rw [if_neg (by rintro (h | h); exact hy h; omega), hx]
     simp only
     rw [if_neg (by omega)]
    rw [hC]
    have h' := h.mono (RO.le_trans hle1 (RO.le_trans hle2 hle9y))
    have hlex := RO.le_trans hle1 (RO.le_trans hle2 hle9y)
    refine vload _ h'.trans ?_
    try simp only [go_sem, ↓reduceIte, Qa, Qb, Qc, Qd, Qe, Qf, reduceCtorEq]
    refine vcall (zSearch k.trans hk.trans t _ _ h'.transV) ?_
    rintro R9 r hle9 ⟨i, b, rfl, hP⟩
    obtain ⟨s1, s2, s3⟩ := lastTr_search hk.trans hP.le hP.lt hP.ge hP.ok
    have hile := hP.le
    cases b with
    | true =>
     obtain ⟨hi, hx⟩ := s1 rfl
     obtain ⟨adx, had, hR⟩ := htf i hi
     try simp only [go_sem, ↓reduceIte, Qa, Qb, Qc, Qd, Qe, Qf, reduceCtorEq]
     first | refine ⟨fun h => absurd h (by omega), fun _ => vload _ (hle9 _ _ h'.trans) ?_⟩ | refine fun _ => vload _ (hle9 _ _ h'.trans) ?_
     try simp only [go_sem, ↓reduceIte, Qa, Qb, Qc, Qd, Qe, Qf, reduceCtorEq]
     refine ⟨by omega, vat adx had ?_⟩
     try simp only [go_sem, ↓reduceIte, Qa, Qb, Qc, Qd, Qe, Qf, reduceCtorEq]
     refine vloadn k.trans[i].cells rfl (fun j u hj => hle9 _ _ (hlex _ _ (hR j u hj))) ?_
     simp only [go_sem, ↓reduceIte, Qa, Qb, Qc, Qd, Qe, Qf, reduceCtorEq, Tr.cells]
     rw [hx]
     rfl
    | false =>
     by_cases hi0 : i = 0
     ·subst hi0
      try simp only [go_sem, ↓reduceIte, Qa, Qb, Qc, Qd, Qe, Qf, reduceCtorEq]
      refine ⟨_, W.in64 (by omega), fun _ => ?_, fun h => absurd h (by omega)⟩
      rw [s2 rfl rfl]
      rfl
     ·have hx := s3 rfl (by omega)
      obtain ⟨adx, had, hR⟩ := htf (i - 1) (by omega)
      try simp only [go_sem, ↓reduceIte, Qa, Qb, Qc, Qd, Qe, Qf, reduceCtorEq]
      refine ⟨_, W.in64 (by omega), fun h => absurd h (by omega), fun _ => vload _ (hle9 _ _ h'.trans) ?_⟩
      try simp only [go_sem, ↓reduceIte, Qa, Qb, Qc, Qd, Qe, Qf, reduceCtorEq]
      rw [show ((i : Int) - 1).toNat = i - 1 by omega]
      refine ⟨by omega, by omega, vat adx had ?_⟩
      try simp only [go_sem, ↓reduceIte, Qa, Qb, Qc, Qd, Qe, Qf, reduceCtorEq]
      refine vloadn k.trans[i - 1].cells rfl (fun j u hj => hle9 _ _ (hlex _ _ (hR j u hj))) ?_
      simp only [go_sem, ↓reduceIte, Qa, Qb, Qc, Qd, Qe, Qf, reduceCtorEq, Tr.cells]
      rw [hx]
      rfl
 ·have hY : lastY k t = none := by unfold lastY; rw [if_pos (.inr (by omega))]
  have hC : lastC k t = lastTr k.trans t := by unfold lastC; rw [hY]
  rw [hC]
  refine vload _ h.trans ?_
  try simp only [go_sem, ↓reduceIte, Qa, Qb, Qc, Qd, Qe, Qf, reduceCtorEq]
  refine vcall (zSearch k.trans hk.trans t _ _ h.transV) ?_
  rintro R9 r hle9 ⟨i, b, rfl, hP⟩
  obtain ⟨s1, s2, s3⟩ := lastTr_search hk.trans hP.le hP.lt hP.ge hP.ok
  have hile := hP.le
  cases b with
  | true =>
   obtain ⟨hi, hx⟩ := s1 rfl
   obtain ⟨adx, had, hR⟩ := htf i hi
   try simp only [go_sem, ↓reduceIte, Qa, Qb, Qc, Qd, Qe, Qf, reduceCtorEq]
   first | refine ⟨fun h => absurd h (by omega), fun _ => vload _ (hle9 _ _ h.trans) ?_⟩ | refine fun _ => vload _ (hle9 _ _ h.trans) ?_
   try simp only [go_sem, ↓reduceIte, Qa, Qb, Qc, Qd, Qe, Qf, reduceCtorEq]
   refine ⟨by omega, vat adx had ?_⟩
   try simp only [go_sem, ↓reduceIte, Qa, Qb, Qc, Qd, Qe, Qf, reduceCtorEq]
   refine vloadn k.trans[i].cells rfl (fun j u hj => hle9 _ _ (id (hR j u hj))) ?_
   simp only [go_sem, ↓reduceIte, Qa, Qb, Qc, Qd, Qe, Qf, reduceCtorEq, Tr.cells]
   rw [hx]
   rfl
  | false =>
   by_cases hi0 : i = 0
   ·subst hi0
    try simp only [go_sem, ↓reduceIte, Qa, Qb, Qc, Qd, Qe, Qf, reduceCtorEq]
    refine ⟨_, W.in64 (by omega), fun _ => ?_, fun h => absurd h (by omega)⟩
    rw [s2 rfl rfl]
    rfl
   ·have hx := s3 rfl (by omega)
    obtain ⟨adx, had, hR⟩ := htf (i - 1) (by omega)
    try simp only [go_sem, ↓reduceIte, Qa, Qb, Qc, Qd, Qe, Qf, reduceCtorEq]
    refine ⟨_, W.in64 (by omega), fun h => absurd h (by omega), fun _ => vload _ (hle9 _ _ h.trans) ?_⟩
    try simp only [go_sem, ↓reduceIte, Qa, Qb, Qc, Qd, Qe, Qf, reduceCtorEq]
    rw [show ((i : Int) - 1).toNat = i - 1 by omega]
    refine ⟨by omega, by omega, vat adx had ?_⟩
    try simp only [go_sem, ↓reduceIte, Qa, Qb, Qc, Qd, Qe, Qf, reduceCtorEq]
    refine vloadn k.trans[i - 1].cells rfl (fun j u hj => hle9 _ _ (id (hR j u hj))) ?_
    simp only [go_sem, ↓reduceIte, Qa, Qb, Qc, Qd, Qe, Qf, reduceCtorEq, Tr.cells]
    rw [hx]
    rfl
end Go.Proofs.YtdgndfabdmecmaaGreat
namespace Go.Proofs.YtdgndfabdmecmaaGreat
set_option linter.unusedSectionVars false
variable [Go.Proofs.YtdgndfabdmecmaaGreat.Vc.Drew]
open Go.Proofs.YtdgndfabdmecmaaGreat.Vc Go.Shelf Go.Sort
def Tryz.sortZ_ren : Go.Shelf.Ren := ⟨fun | 5 => 61 | 8 => 96 | 7 => 97 | 19 => 129 | 20 => 130 | 10 => 131 | 11 => 132 | 12 => 133 | 13 => 134 | 14 => 135 | 15 => 136 | 16 => 137 | 17 => 138 | 18 => 139 | 30 => 177 | 31 => 173 | 32 => 174 | 33 => 178 | 34 => 179 | 35 => 101 | 40 => 194 | n => n, fun | 23 => 36 | 25 => 3 | 3 => 3 | 32 => 175 | 22 => 36 | 0 => 0 | 44 => 210 | 46 => 212 | 4 => 4 | 36 => 204 | 35 => 203 | 41 => 156 | 5 => 5 | 9 => 9 | 53 => 236 | 57 => 240 | 63 => 258 | 64 => 253 | n => n, fun | n => n⟩
theorem Tryz.sortZ : Go.Proofs.SlLaysM.n5 Tryz.prog Tryz.sortZ_ren := {
 mixed := by kernel_rfl
 f5 := ⟨Tryz.f61.name, by decide, Tryz.func61.trans (congrArg some (by kernel_rfl))⟩
 f7 := ⟨Tryz.f97.name, by decide, Tryz.func97.trans (congrArg some (by kernel_rfl))⟩
 f8 := Tryz.func96.trans (congrArg some (by kernel_rfl))
 f10 := ⟨Tryz.f131.name, by decide, Tryz.func131.trans (congrArg some (by kernel_rfl))⟩
 f11 := ⟨Tryz.f132.name, by decide, Tryz.func132.trans (congrArg some (by kernel_rfl))⟩
 f12 := ⟨Tryz.f133.name, by decide, Tryz.func133.trans (congrArg some (by kernel_rfl))⟩
 f13 := ⟨Tryz.f134.name, by decide, Tryz.func134.trans (congrArg some (by kernel_rfl))⟩
 f14 := ⟨Tryz.f135.name, by decide, Tryz.func135.trans (congrArg some (by kernel_rfl))⟩
 f15 := ⟨Tryz.f136.name, by decide, Tryz.func136.trans (congrArg some (by kernel_rfl))⟩
 f16 := ⟨Tryz.f137.name, by decide, Tryz.func137.trans (congrArg some (by kernel_rfl))⟩
 f17 := ⟨Tryz.f138.name, by decide, Tryz.func138.trans (congrArg some (by kernel_rfl))⟩
 f18 := ⟨Tryz.f139.name, by decide, Tryz.func139.trans (congrArg some (by kernel_rfl))⟩
 f19 := Tryz.func129.trans (congrArg some (by kernel_rfl))
 f20 := Tryz.func130.trans (congrArg some (by kernel_rfl))
 f30 := ⟨Tryz.f177.name, by decide, Tryz.func177.trans (congrArg some (by kernel_rfl))⟩
 f31 := Tryz.func173.trans (congrArg some (by kernel_rfl))
 f32 := Tryz.func174.trans (congrArg some (by kernel_rfl))
 f33 := ⟨Tryz.f178.name, by decide, Tryz.func178.trans (congrArg some (by kernel_rfl))⟩
 f34 := ⟨Tryz.f179.name, by decide, Tryz.func179.trans (congrArg some (by kernel_rfl))⟩
 f35 := ⟨Tryz.f101.name, by decide, Tryz.func101.trans (congrArg some (by kernel_rfl))⟩
 f40 := ⟨Tryz.f194.name, by decide, Tryz.func194.trans (congrArg some (by kernel_rfl))⟩
 t0 := Tryz.underlying0
 a0 := Tryz.isAgg0
 z0 := Tryz.sizeOf0
 v0 := Tryz.zeroValue0
 t3 := Tryz.underlying3
 a3 := Tryz.isAgg3
 z3 := Tryz.sizeOf3
 v3 := Tryz.zeroValue3
 t4 := Tryz.underlying4
 a4 := Tryz.isAgg4
 z4 := Tryz.sizeOf4
 v4 := Tryz.zeroValue4
 t5 := Tryz.underlying5
 a5 := Tryz.isAgg5
 z5 := Tryz.sizeOf5
 v5 := Tryz.zeroValue5
 t9 := Tryz.underlying9
 a9 := Tryz.isAgg9
 z9 := Tryz.sizeOf9
 v9 := Tryz.zeroValue9
 t22 := Tryz.underlying36
 a22 := Tryz.isAgg36
 z22 := Tryz.sizeOf36
 v22 := Tryz.zeroValue36
 t23 := Tryz.underlying36
 a23 := Tryz.isAgg36
 z23 := Tryz.sizeOf36
 v23 := Tryz.zeroValue36
 t25 := Tryz.underlying3
 a25 := Tryz.isAgg3
 z25 := Tryz.sizeOf3
 v25 := Tryz.zeroValue3
 t32 := Tryz.underlying175
 a32 := Tryz.isAgg175
 z32 := Tryz.sizeOf175
 v32 := Tryz.zeroValue175
 t35 := Tryz.underlying203
 a35 := Tryz.isAgg203
 z35 := Tryz.sizeOf203
 v35 := Tryz.zeroValue203
 t36 := Tryz.underlying204
 a36 := Tryz.isAgg204
 z36 := Tryz.sizeOf204
 v36 := Tryz.zeroValue204
 t41 := Tryz.underlying156
 a41 := Tryz.isAgg156
 z41 := Tryz.sizeOf156
 v41 := Tryz.zeroValue156
 t44 := Tryz.underlying210
 a44 := Tryz.isAgg210
 z44 := Tryz.sizeOf210
 v44 := Tryz.zeroValue210
 t46 := Tryz.underlying212
 a46 := Tryz.isAgg212
 z46 := Tryz.sizeOf212
 v46 := Tryz.zeroValue212
 t53 := Tryz.underlying236
 a53 := Tryz.isAgg236
 z53 := Tryz.sizeOf236
 v53 := Tryz.zeroValue236
 t57 := Tryz.underlying240
 a57 := Tryz.isAgg240
 z57 := Tryz.sizeOf240
 v57 := Tryz.zeroValue240
 t63 := Tryz.underlying258
 a63 := Tryz.isAgg258
 z63 := Tryz.sizeOf258
 v63 := Tryz.zeroValue258
 t64 := Tryz.underlying253
 a64 := Tryz.isAgg253
 z64 := Tryz.sizeOf253
 v64 := Tryz.zeroValue253 }
theorem zSortInts (xs : List Int) (hl : xs.length ≤ 1000000000) (R : RO) : CallsS Tryz.prog 61 [.sl 0 xs.length] [.row 3 1 (xs.map (.int .i64))] R fun R' bs r => R' = R ∧ bs = [.row 3 1 ((sortI xs).map (.int .i64))] ∧ r = .val (.tuple #[]) := sortIntsS Tryz.sortZ 3 xs (by omega) R
theorem zSortNil (R : RO) : CallsR Tryz.prog 61 [.slice none 0 0] R fun _ r => r = .tuple #[] := callsR_still (fun w => AnyM.slices_Sort_int_none Tryz.sortZ none 0 w) R
theorem zOffset (k : Ck) (hk : CkOK k) (t : Int) (ht : -4503599627370496 ≤ t ∧ t ≤ 4503599627370496) (ad : Addr) (ta : Option Addr) (tc : Nat) (ya : Option Addr) (yc : Nat) (R : RO) (h : CkV R ad k ta tc ya yc) :
  CallsR Tryz.prog 164 [.pointer (some ad), .int .i64 t] R fun _ r => r = .int .i64 (offC k t) := by
 have hL := zLast k hk t ht ad ta tc ya yc R h
 unfold offC
 refine callsT mix Tryz.func164 comp164 (by simp [Tryz.ntmps164]) ?_; simp only [go_sem, ↓reduceIte, Qa, Qb, Qc, Qd, Qe, Qf, reduceCtorEq, vc164, rs164]
 refine vcall hL ?_
 rintro R1 r hle1 rfl
 cases hc : lastC k t with
 | some x =>
  simp only [lastV, Tr.cells]
  try simp only [go_sem, ↓reduceIte, Qa, Qb, Qc, Qd, Qe, Qf, reduceCtorEq]
 | none =>
  simp only [lastV]
  try simp only [go_sem, ↓reduceIte, Qa, Qb, Qc, Qd, Qe, Qf, reduceCtorEq]
  refine vload _ (hle1 _ _ h.start) ?_
  try simp only [go_sem, ↓reduceIte, Qa, Qb, Qc, Qd, Qe, Qf, reduceCtorEq]
set_option maxHeartbeats 2000000 in
theorem zInst (k : Ck) (hk : CkOK k) (loc : Int) (hl : -2251799813684168 ≤ loc ∧ loc ≤ 2251799813684168) (ad : Addr) (ta : Option Addr) (tc : Nat) (ya : Option Addr) (yc : Nat) (R : RO) (h : CkV R ad k ta tc ya yc) :
  CallsR Tryz.prog 110 [.pointer (some ad), .int .i64 loc] R fun R' r => ∃ u, r = .tuple #[u, .int .i64 (instC k loc).2.1, .int .i64 (instC k loc).2.2] ∧ Ints R' u (instC k loc).1 := by
 have hL := fun R' (hle : RO.le R R') t ht => zLast k hk t ht ad ta tc ya yc R' (h.mono hle)
 have hO := fun R' (hle : RO.le R R') t ht => zOffset k hk t ht ad ta tc ya yc R' (h.mono hle)
 unfold instC
 obtain ⟨res, hres⟩ : ∃ res, res = instF k loc 2200 (loc + 1080) [] := ⟨_, rfl⟩
 rw [← hres]
 refine callsT mix Tryz.func110 comp110 (by simp [Tryz.ntmps110]) ?_; simp only [go_sem, ↓reduceIte, Qa, Qb, Qc, Qd, Qe, Qf, reduceCtorEq, vc110, rs110]
 refine ⟨_, W.in64 (by omega), ?_⟩
 refine vcLoopR (Nat × Int × List Int) (fun x => [(0, .val (.pointer (some ad))), (1, .val (.int .i64 loc)), (4, gs 0 x.2.2.length), (7, .val (.int .i64 x.2.1)), (5, .val (.int .i64 0)), (6, .val (.int .i64 0))])
  (fun x => [gb 3 1 (x.2.2.map (.int .i64))])
  (fun x _ => instF k loc x.1 x.2.1 x.2.2 = res ∧ x.2.1 ≤ loc + 1080 ∧ loc - 1081 ≤ x.2.1 ∧ x.2.1 - loc + 1083 ≤ x.1 ∧ x.2.2.length + x.1 ≤ 2200) (fun x => x.1) (2200, loc + 1080, []) [] ?_ ?_ ?_ ?_
 ·(try simp only [go_sem, ↓reduceIte, Qa, Qb, Qc, Qd, Qe, Qf, reduceCtorEq]) <;> (repeat' (first | rfl | trivial | constructor | (intro h; exact absurd rfl h)))
 ·try simp only [go_sem, ↓reduceIte, Qa, Qb, Qc, Qd, Qe, Qf, reduceCtorEq]
 ·exact ⟨hres.symm, Int.le_refl _, by dsimp only; omega, by dsimp only; omega, by simp⟩
 rintro ⟨f, t, l⟩ env R1 hle1 hE ⟨hf, ht1, ht2, hft, hlf⟩
 simp only at hE hf ht1 ht2 hft hlf
 (simp only [go_sem] at hE; obtain ⟨e0, e1, e4, e7, e5, e6⟩ := hE; simp only [go_sem, ↓reduceIte, Qa, Qb, Qc, Qd, Qe, Qf, reduceCtorEq, e0, e1, e4, e7, e5, e6]; dsimp only at *)
 obtain ⟨f, rfl⟩ : ∃ g, f = g + 1 := ⟨f - 1, by omega⟩
 have htb : -4503599627370496 ≤ t ∧ t ≤ 4503599627370496 := by omega
 rw [instF] at hf
 refine vcall (hL R1 hle1 t htb) ?_
 rintro R2 r hle2 rfl
 have hob := offC_bd hk t
 cases hc : lastC k t with
 | none =>
  rw [hc] at hf
  dsimp only at hf
  simp only [lastV]
  try simp only [go_sem, ↓reduceIte, Qa, Qb, Qc, Qd, Qe, Qf, reduceCtorEq, e0, e1, e4, e7, e5, e6]
  refine vcall (hO R2 (RO.le_trans hle1 hle2) t htb) ?_
  rintro R3 r hle3 rfl
  try simp only [go_sem, ↓reduceIte, Qa, Qb, Qc, Qd, Qe, Qf, reduceCtorEq, e0, e1, e4, e7, e5, e6]
  refine ⟨_, W.in64 (by omega), fun hc1 => ?_, fun hc1 => ?_⟩
  ·rw [if_pos hc1] at hf
   refine vgrow (l.map (.int .i64)) (fun h0 => by rw [gb_ne h0]; rfl) (fun h0 => by rw [h0, gb_nil]; rfl) (by simp) (by omega) (by omega) (by omega) ?_
   try simp only [go_sem, ↓reduceIte, Qa, Qb, Qc, Qd, Qe, Qf, reduceCtorEq, e0, e1, e4, e7, e5, e6]
   have hSI := zSortInts (l ++ [loc - offC k t]) (by simp; omega) R3
   rw [show (l ++ [loc - offC k t]).length = l.length + 1 by simp] at hSI
   refine vhand [3] [.sl 0 (l.length + 1)] [.row 3 1 ((l ++ [loc - offC k t]).map (.int .i64))] hSI rfl rfl rfl ?_ (by simp) rfl rfl ?_
   ·try simp only [go_sem, ↓reduceIte, Qa, Qb, Qc, Qd, Qe, Qf, reduceCtorEq]
    simp
   rintro R8 bs r hle8 ⟨rfl, rfl, rfl⟩ _
   simp only [go_sem, ↓reduceIte, Qa, Qb, Qc, Qd, Qe, Qf, reduceCtorEq, setG, rn, e0, e1, e4, e7, e5, e6]
   intro b cap R9 hle9 hrow hcap hfr
   refine ⟨_, by rw [← hf], ?_⟩
   rw [← hf]
   have := RowIn.ints hrow (by simpa using hcap)
   rw [show (sortI (l ++ [loc - offC k t])).length = l.length + 1 by simp [sortI]] at this
   exact this
  ·rw [if_neg hc1] at hf
   by_cases hl0 : l.length = 0
   ·obtain rfl : l = [] := List.eq_nil_of_length_eq_zero hl0
    try simp only [go_sem, ↓reduceIte, Qa, Qb, Qc, Qd, Qe, Qf, reduceCtorEq, e0, e1, e4, e7, e5, e6]
    refine vcall (zSortNil R3) ?_
    rintro R8 r hle8 rfl
    try simp only [go_sem, ↓reduceIte, Qa, Qb, Qc, Qd, Qe, Qf, reduceCtorEq, e0, e1, e4, e7, e5, e6]
    refine ⟨_, by rw [← hf], ?_⟩
    rw [← hf]
    simpa [sortI] using Ints.nil R8
   ·rw [gs_pos hl0]
    try simp only [go_sem, ↓reduceIte, Qa, Qb, Qc, Qd, Qe, Qf, reduceCtorEq, e0, e1, e4, e7, e5, e6]
    have hSI := zSortInts l (by omega) R3
    refine vhand [0] [.sl 0 l.length] [.row 3 1 (l.map (.int .i64))] hSI rfl rfl rfl ?_ (by simp) rfl rfl ?_
    ·try simp only [go_sem, ↓reduceIte, Qa, Qb, Qc, Qd, Qe, Qf, reduceCtorEq]
     exact gb_ne (fun e => hl0 (by have := congrArg List.length e; simpa using this))
    rintro R8 bs r hle8 ⟨rfl, rfl, rfl⟩ _
    try simp only [go_sem, ↓reduceIte, Qa, Qb, Qc, Qd, Qe, Qf, reduceCtorEq, e0, e1, e4, e7, e5, e6]
    rw [gs_pos hl0]
    simp only [go_sem, ↓reduceIte, Qa, Qb, Qc, Qd, Qe, Qf, reduceCtorEq, setG, rn, e0, e1, e4, e7, e5, e6]
    intro b cap R9 hle9 hrow hcap hfr
    refine ⟨_, by rw [← hf], ?_⟩
    rw [← hf]
    have := RowIn.ints hrow (by simpa using hcap)
    rw [show (sortI l).length = l.length by simp [sortI]] at this
    exact this
 | some y =>
  rw [hc] at hf
  dsimp only at hf
  obtain ⟨y1, y2, y3⟩ := lastC_facts hk hc
  simp only [lastV, Tr.cells]
  try simp only [go_sem, ↓reduceIte, Qa, Qb, Qc, Qd, Qe, Qf, reduceCtorEq, e0, e1, e4, e7, e5, e6]
  refine vcall (hO R2 (RO.le_trans hle1 hle2) t htb) ?_
  rintro R3 r hle3 rfl
  try simp only [go_sem, ↓reduceIte, Qa, Qb, Qc, Qd, Qe, Qf, reduceCtorEq, e0, e1, e4, e7, e5, e6]
  refine ⟨_, W.in64 (by omega), fun hc1 => ⟨fun hc2 => ?_, fun hc2 => ?_⟩, fun hc1 => ?_⟩
  ·have hcc : (if loc - offC k t ≤ t ∧ y.pos ≤ loc - offC k t then l ++ [loc - offC k t] else l) = l ++ [loc - offC k t] := if_pos ⟨hc1, hc2⟩
   rw [hcc] at hf
   refine vgrow (l.map (.int .i64)) (fun h0 => by rw [gb_ne h0]; rfl) (fun h0 => by rw [h0, gb_nil]; rfl) (by simp) (by omega) (by omega) (by omega) ?_
   try simp only [go_sem, ↓reduceIte, Qa, Qb, Qc, Qd, Qe, Qf, reduceCtorEq, e0, e1, e4, e7, e5, e6]
   refine ⟨_, W.in64 (by omega), fun hlo => ?_, fun hlo => ?_⟩
   ·rw [if_pos hlo] at hf
    have hSI := zSortInts (l ++ [loc - offC k t]) (by simp; omega) R3
    rw [show (l ++ [loc - offC k t]).length = l.length + 1 by simp] at hSI
    refine vhand [3] [.sl 0 (l.length + 1)] [.row 3 1 ((l ++ [loc - offC k t]).map (.int .i64))] hSI rfl rfl rfl ?_ (by simp) rfl rfl ?_
    ·try simp only [go_sem, ↓reduceIte, Qa, Qb, Qc, Qd, Qe, Qf, reduceCtorEq]
     simp
    rintro R8 bs r hle8 ⟨rfl, rfl, rfl⟩ _
    simp only [go_sem, ↓reduceIte, Qa, Qb, Qc, Qd, Qe, Qf, reduceCtorEq, setG, rn, e0, e1, e4, e7, e5, e6]
    intro b cap R9 hle9 hrow hcap hfr
    refine ⟨_, by rw [← hf], ?_⟩
    rw [← hf]
    have := RowIn.ints hrow (by simpa using hcap)
    rw [show (sortI (l ++ [loc - offC k t])).length = l.length + 1 by simp [sortI]] at this
    exact this
   ·rw [if_neg hlo] at hf
    refine ⟨_, W.in64 (by omega), ?_⟩
    refine vcall (hO R3 (RO.le_trans hle1 (RO.le_trans hle2 hle3)) (y.pos - 1) (by omega)) ?_
    rintro R4 r hle4 rfl
    have hob2 := offC_bd hk (y.pos - 1)
    try simp only [go_sem, ↓reduceIte, Qa, Qb, Qc, Qd, Qe, Qf, reduceCtorEq, e0, e1, e4, e7, e5, e6]
    refine ⟨_, W.in64 (by omega), ?_⟩
    refine ⟨fun hg => ⟨_, W.in64 (by omega), fun hg2 => ?_, fun hg2 => ?_⟩, fun hg => ?_⟩
    ·rw [if_pos ⟨hg, hg2⟩] at hf
     exact ⟨_, by rw [← hf], by rw [← hf]; exact Ints.nil _⟩
    ·rw [if_neg (fun h => hg2 h.2)] at hf
     exact ⟨_, W.in64 (by omega), (f, y.pos - 1, l ++ [loc - offC k t]), [3], by dsimp only; omega, ⟨⟨by simp [gs], rfl⟩, fun _ => by simp⟩, by decide, hf, by dsimp only; omega, by dsimp only; omega, by dsimp only; omega, by simp; omega⟩
    ·rw [if_neg (fun h => hg h.1)] at hf
     exact ⟨_, W.in64 (by omega), (f, y.pos - 1, l ++ [loc - offC k t]), [3], by dsimp only; omega, ⟨⟨by simp [gs], rfl⟩, fun _ => by simp⟩, by decide, hf, by dsimp only; omega, by dsimp only; omega, by dsimp only; omega, by simp; omega⟩
  ·have hcc : (if loc - offC k t ≤ t ∧ y.pos ≤ loc - offC k t then l ++ [loc - offC k t] else l) = l := if_neg (fun h => hc2 h.2)
   rw [hcc] at hf
   refine ⟨_, W.in64 (by omega), fun hlo => ?_, fun hlo => ?_⟩
   ·rw [if_pos hlo] at hf
    by_cases hl0 : l.length = 0
    ·obtain rfl : l = [] := List.eq_nil_of_length_eq_zero hl0
     try simp only [go_sem, ↓reduceIte, Qa, Qb, Qc, Qd, Qe, Qf, reduceCtorEq, e0, e1, e4, e7, e5, e6]
     refine vcall (zSortNil R3) ?_
     rintro R8 r hle8 rfl
     try simp only [go_sem, ↓reduceIte, Qa, Qb, Qc, Qd, Qe, Qf, reduceCtorEq, e0, e1, e4, e7, e5, e6]
     refine ⟨_, by rw [← hf], ?_⟩
     rw [← hf]
     simpa [sortI] using Ints.nil R8
    ·rw [gs_pos hl0]
     try simp only [go_sem, ↓reduceIte, Qa, Qb, Qc, Qd, Qe, Qf, reduceCtorEq, e0, e1, e4, e7, e5, e6]
     have hSI := zSortInts l (by omega) R3
     refine vhand [0] [.sl 0 l.length] [.row 3 1 (l.map (.int .i64))] hSI rfl rfl rfl ?_ (by simp) rfl rfl ?_
     ·try simp only [go_sem, ↓reduceIte, Qa, Qb, Qc, Qd, Qe, Qf, reduceCtorEq]
      exact gb_ne (fun e => hl0 (by have := congrArg List.length e; simpa using this))
     rintro R8 bs r hle8 ⟨rfl, rfl, rfl⟩ _
     try simp only [go_sem, ↓reduceIte, Qa, Qb, Qc, Qd, Qe, Qf, reduceCtorEq, e0, e1, e4, e7, e5, e6]
     rw [gs_pos hl0]
     simp only [go_sem, ↓reduceIte, Qa, Qb, Qc, Qd, Qe, Qf, reduceCtorEq, setG, rn, e0, e1, e4, e7, e5, e6]
     intro b cap R9 hle9 hrow hcap hfr
     refine ⟨_, by rw [← hf], ?_⟩
     rw [← hf]
     have := RowIn.ints hrow (by simpa using hcap)
     rw [show (sortI l).length = l.length by simp [sortI]] at this
     exact this
   ·rw [if_neg hlo] at hf
    refine ⟨_, W.in64 (by omega), ?_⟩
    refine vcall (hO R3 (RO.le_trans hle1 (RO.le_trans hle2 hle3)) (y.pos - 1) (by omega)) ?_
    rintro R4 r hle4 rfl
    have hob2 := offC_bd hk (y.pos - 1)
    try simp only [go_sem, ↓reduceIte, Qa, Qb, Qc, Qd, Qe, Qf, reduceCtorEq, e0, e1, e4, e7, e5, e6]
    refine ⟨_, W.in64 (by omega), ?_⟩
    refine ⟨fun hg => ⟨_, W.in64 (by omega), fun hg2 => ?_, fun hg2 => ?_⟩, fun hg => ?_⟩
    ·rw [if_pos ⟨hg, hg2⟩] at hf
     exact ⟨_, by rw [← hf], by rw [← hf]; exact Ints.nil _⟩
    ·rw [if_neg (fun h => hg2 h.2)] at hf
     exact ⟨_, W.in64 (by omega), (f, y.pos - 1, l), [], by dsimp only; omega, ⟨⟨rfl, rfl⟩, fun h => by show some (gb _ _ _) = _; rw [gb_ne h]⟩, by decide, hf, by dsimp only; omega, by dsimp only; omega, by dsimp only; omega, by simp; omega⟩
    ·rw [if_neg (fun h => hg h.1)] at hf
     exact ⟨_, W.in64 (by omega), (f, y.pos - 1, l), [], by dsimp only; omega, ⟨⟨rfl, rfl⟩, fun h => by show some (gb _ _ _) = _; rw [gb_ne h]⟩, by decide, hf, by dsimp only; omega, by dsimp only; omega, by dsimp only; omega, by simp; omega⟩
  ·have hcc : (if loc - offC k t ≤ t ∧ y.pos ≤ loc - offC k t then l ++ [loc - offC k t] else l) = l := if_neg (fun h => hc1 h.1)
   rw [hcc] at hf
   refine ⟨_, W.in64 (by omega), fun hlo => ?_, fun hlo => ?_⟩
   ·rw [if_pos hlo] at hf
    by_cases hl0 : l.length = 0
    ·obtain rfl : l = [] := List.eq_nil_of_length_eq_zero hl0
     try simp only [go_sem, ↓reduceIte, Qa, Qb, Qc, Qd, Qe, Qf, reduceCtorEq, e0, e1, e4, e7, e5, e6]
     refine vcall (zSortNil R3) ?_
     rintro R8 r hle8 rfl
     try simp only [go_sem, ↓reduceIte, Qa, Qb, Qc, Qd, Qe, Qf, reduceCtorEq, e0, e1, e4, e7, e5, e6]
     refine ⟨_, by rw [← hf], ?_⟩
     rw [← hf]
     simpa [sortI] using Ints.nil R8
    ·rw [gs_pos hl0]
     try simp only [go_sem, ↓reduceIte, Qa, Qb, Qc, Qd, Qe, Qf, reduceCtorEq, e0, e1, e4, e7, e5, e6]
     have hSI := zSortInts l (by omega) R3
     refine vhand [0] [.sl 0 l.length] [.row 3 1 (l.map (.int .i64))] hSI rfl rfl rfl ?_ (by simp) rfl rfl ?_
     ·try simp only [go_sem, ↓reduceIte, Qa, Qb, Qc, Qd, Qe, Qf, reduceCtorEq]
      exact gb_ne (fun e => hl0 (by have := congrArg List.length e; simpa using this))
     rintro R8 bs r hle8 ⟨rfl, rfl, rfl⟩ _
     try simp only [go_sem, ↓reduceIte, Qa, Qb, Qc, Qd, Qe, Qf, reduceCtorEq, e0, e1, e4, e7, e5, e6]
     rw [gs_pos hl0]
     simp only [go_sem, ↓reduceIte, Qa, Qb, Qc, Qd, Qe, Qf, reduceCtorEq, setG, rn, e0, e1, e4, e7, e5, e6]
     intro b cap R9 hle9 hrow hcap hfr
     refine ⟨_, by rw [← hf], ?_⟩
     rw [← hf]
     have := RowIn.ints hrow (by simpa using hcap)
     rw [show (sortI l).length = l.length by simp [sortI]] at this
     exact this
   ·rw [if_neg hlo] at hf
    refine ⟨_, W.in64 (by omega), ?_⟩
    refine vcall (hO R3 (RO.le_trans hle1 (RO.le_trans hle2 hle3)) (y.pos - 1) (by omega)) ?_
    rintro R4 r hle4 rfl
    have hob2 := offC_bd hk (y.pos - 1)
    try simp only [go_sem, ↓reduceIte, Qa, Qb, Qc, Qd, Qe, Qf, reduceCtorEq, e0, e1, e4, e7, e5, e6]
    refine ⟨_, W.in64 (by omega), ?_⟩
    refine ⟨fun hg => ⟨_, W.in64 (by omega), fun hg2 => ?_, fun hg2 => ?_⟩, fun hg => ?_⟩
    ·rw [if_pos ⟨hg, hg2⟩] at hf
     exact ⟨_, by rw [← hf], by rw [← hf]; exact Ints.nil _⟩
    ·rw [if_neg (fun h => hg2 h.2)] at hf
     exact ⟨_, W.in64 (by omega), (f, y.pos - 1, l), [], by dsimp only; omega, ⟨⟨rfl, rfl⟩, fun h => by show some (gb _ _ _) = _; rw [gb_ne h]⟩, by decide, hf, by dsimp only; omega, by dsimp only; omega, by dsimp only; omega, by simp; omega⟩
    ·rw [if_neg (fun h => hg h.1)] at hf
     exact ⟨_, W.in64 (by omega), (f, y.pos - 1, l), [], by dsimp only; omega, ⟨⟨rfl, rfl⟩, fun h => by show some (gb _ _ _) = _; rw [gb_ne h]⟩, by decide, hf, by dsimp only; omega, by dsimp only; omega, by dsimp only; omega, by simp; omega⟩
end Go.Proofs.YtdgndfabdmecmaaGreat
namespace Go.Proofs.YtdgndfabdmecmaaGreat
set_option linter.unusedSectionVars false
variable [Go.Proofs.YtdgndfabdmecmaaGreat.Vc.Drew]
open Go.Proofs.YtdgndfabdmecmaaGreat.Vc
def OpenC (R : RO) (z : Zv) (k : Ck) : Prop := ∀ R', RO.le R R' → CallsR Tryz.prog 72 [.agg z.cells.toArray] R' fun R'' r => ∃ ad ta tc ya yc, r = .tuple #[.pointer (some ad), .bool true] ∧ CkV R'' ad k ta tc ya yc
theorem OpenC.mono {R R' : RO} {z : Zv} {k : Ck} (h : OpenC R z k) (hle : RO.le R R') : OpenC R' z k := fun R'' h2 => h R'' (RO.le_trans hle h2)
theorem zWithin (n l : Int) (R : RO) (hl : 0 ≤ l ∧ l ≤ 9223372036854775807) : CallsR Tryz.prog 107 [.int .i64 n, .int .i64 l] R fun _ r => r = .bool (decide (-l ≤ n ∧ n ≤ l)) := by
 refine callsT mix Tryz.func107 comp107 (by simp [Tryz.ntmps107]) ?_; simp only [go_sem, ↓reduceIte, Qa, Qb, Qc, Qd, Qe, Qf, reduceCtorEq, vc107, rs107]
 refine ⟨_, W.in64 (by omega), fun h => ?_, fun h => ?_⟩
 ·congr 1; exact decide_eq_decide.2 (by omega)
 ·congr 1; exact (decide_eq_false (by omega)).symm
theorem zValid (z : Zv) (k : Ck) (R : RO) (h : OpenC R z k) (ht : z.tn ≤ 512) : CallsR Tryz.prog 34 [.agg z.cells.toArray] R fun _ r => r = .int .i64 0 := by
 have hO := h R (RO.le_refl R)
 simp only [Zv.cells] at hO ⊢
 refine callsT mix Tryz.func34 comp34 (by simp [Tryz.ntmps34]) ?_; simp only [go_sem, ↓reduceIte, Qa, Qb, Qc, Qd, Qe, Qf, reduceCtorEq, vc34, rs34]
 refine ⟨fun hh => by omega, fun _ => ?_⟩
 refine vcall hO ?_
 rintro R1 r hle1 ⟨ad, ta, tc, ya, yc, rfl, hc⟩
 try simp only [go_sem, ↓reduceIte, Qa, Qb, Qc, Qd, Qe, Qf, reduceCtorEq]
theorem zPol : ∀ (R : RO), CallsR Tryz.prog 111 [] R fun _ r => r = .agg #[.func (.func 165) #[] #[], .func (.func 166) #[] #[], .func (.func 167) #[] #[]] := by
 intro R
 refine callsT mix Tryz.func111 comp111 (by simp [Tryz.ntmps111]) ?_; simp only [go_sem, ↓reduceIte, Qa, Qb, Qc, Qd, Qe, Qf, reduceCtorEq, vc111, rs111]
theorem zPol1 (a b c : Int) (R : RO) : CallsR Tryz.prog 165 [.int .i64 a, .int .i64 b, .int .i64 c] R fun R' u => Ints R' u [] := by
 refine callsT mix Tryz.func165 comp165 (by simp [Tryz.ntmps165]) ?_; simp only [go_sem, ↓reduceIte, Qa, Qb, Qc, Qd, Qe, Qf, reduceCtorEq, vc165, rs165]
 exact Ints.nil _
theorem zPol2 (a b c : Int) (hb : -9223372036854775808 ≤ a - c ∧ a - c ≤ 9223372036854775807) (R : RO) : CallsR Tryz.prog 166 [.int .i64 a, .int .i64 b, .int .i64 c] R fun R' u => Ints R' u [a - c] := by
 refine callsT mix Tryz.func166 comp166 (by simp [Tryz.ntmps166]) ?_; simp only [go_sem, ↓reduceIte, Qa, Qb, Qc, Qd, Qe, Qf, reduceCtorEq, vc166, rs166]
 refine ⟨_, W.in64 (by omega), ?_⟩
 intro b cap R1 hle hrow hcap hfr
 exact RowIn.ints (xs := [a - c]) hrow (by simpa using hcap)
theorem zPol3 (a b c : Int) (R : RO) : CallsR Tryz.prog 167 [.int .i64 a, .int .i64 b, .int .i64 c] R fun R' u => Ints R' u [b] := by
 refine callsT mix Tryz.func167 comp167 (by simp [Tryz.ntmps167]) ?_; simp only [go_sem, ↓reduceIte, Qa, Qb, Qc, Qd, Qe, Qf, reduceCtorEq, vc167, rs167]
 intro b' cap R1 hle hrow hcap hfr
 exact RowIn.ints (xs := [b]) hrow (by simpa using hcap)
theorem hbPol1 : hasBody Tryz.prog 165 = true := by kernel_rfl
theorem hbPol2 : hasBody Tryz.prog 166 = true := by kernel_rfl
theorem hbPol3 : hasBody Tryz.prog 167 = true := by kernel_rfl
theorem instF_bd {k : Ck} (hk : CkOK k) {loc : Int} : ∀ (f : Nat) (t : Int) (l : List Int), -1080 ≤ (instF k loc f t l).2.2 ∧ (instF k loc f t l).2.2 ≤ 1080
 | 0, t, l => by simp [instF]
 | f + 1, t, l => by
  rw [instF]
  split
  ·simp
  ·split
   ·simp
   ·split
    ·exact offC_bd hk _
    ·exact instF_bd hk f _ _
theorem instF_len {k : Ck} {loc : Int} : ∀ (f : Nat) (t : Int) (l : List Int), (instF k loc f t l).1.length ≤ l.length + f
 | 0, t, l => by simp [instF]
 | f + 1, t, l => by
  rw [instF]
  split
  ·simp only [sortI, List.length_mergeSort]; split <;> simp
  ·split
   ·simp only [sortI, List.length_mergeSort]; split <;> simp
   ·split
    ·simp
    ·refine Nat.le_trans (instF_len f _ _) ?_
     split <;> simp <;> omega
theorem Ints.sub {R : RO} {a : Option Addr} {n c : Nat} {xs : List Int} (h : Ints R (.slice a n c) xs) {lo hi : Nat} (h1 : lo ≤ hi) (h2 : hi ≤ n) : Ints R (.slice (if c = lo then a else Option.map (fun x => x.add lo) a) (hi - lo) (c - lo)) ((xs.take hi).drop lo) := by
 obtain ⟨a', c', e, hc, hf⟩ := h.form
 simp only [Value.slice.injEq] at e
 obtain ⟨rfl, rfl, rfl⟩ := e
 have hlen : (((xs.take hi).drop lo).map (Value.int .i64)).length = hi - lo := by simp; omega
 refine ⟨_, c - lo, by rw [hlen], by rw [hlen]; omega, fun i u hi' => ?_⟩
 rw [List.getElem?_map, List.getElem?_drop] at hi'
 obtain ⟨x, hx, rfl⟩ := Option.map_eq_some_iff.1 hi'
 rw [List.getElem?_take] at hx
 split at hx
 ·rename_i hlt
  obtain ⟨hlt2, rfl⟩ := List.getElem?_eq_some_iff.1 hx
  obtain ⟨ad, rfl, hR⟩ := hf (lo + i) hlt2
  rw [if_neg (by omega)]
  exact ⟨ad.add lo, rfl, by rw [add_add]; exact hR⟩
 ·cases hx
set_option maxHeartbeats 1000000 in
theorem zInstants (z : Zv) (k : Ck) (hk : CkOK k) (loc gap fold : Int) (hl : -2251799813684168 ≤ loc ∧ loc ≤ 2251799813684168) (hg : 0 ≤ gap ∧ gap ≤ 2) (hf : 0 ≤ fold ∧ fold ≤ 2) (R : RO) (h : OpenC R z k) :
  CallsR Tryz.prog 75 [.agg z.cells.toArray, .int .i64 loc, .int .i64 gap, .int .i64 fold] R fun R' r => ∃ u, r = .tuple #[u, .int .i64 0] ∧ Ints R' u (instsC k loc gap fold) := by
 have hO := h R (RO.le_refl R)
 have hbd := instF_bd hk (loc := loc) 2200 (loc + 1080) []
 have hlen := instF_len (k := k) (loc := loc) 2200 (loc + 1080) []
 simp only [Zv.cells] at hO ⊢
 refine callsT mix Tryz.func75 comp75 (by simp [Tryz.ntmps75]) ?_; simp only [go_sem, ↓reduceIte, Qa, Qb, Qc, Qd, Qe, Qf, reduceCtorEq, vc75, rs75]
 refine vcall hO ?_
 rintro R1 r hle1 ⟨ad, ta, tc, ya, yc, rfl, hc⟩
 try simp only [go_sem, ↓reduceIte, Qa, Qb, Qc, Qd, Qe, Qf, reduceCtorEq]
 refine vcall (zWithin loc 2251799813684168 R1 (by omega)) ?_
 rintro R2 r hle2 rfl
 rw [decide_eq_true (by omega : -2251799813684168 ≤ loc ∧ loc ≤ 2251799813684168)]
 try simp only [go_sem, ↓reduceIte, Qa, Qb, Qc, Qd, Qe, Qf, reduceCtorEq, show ¬ gap < 0 by omega, show ¬ 2 < gap by omega, show ¬ fold < 0 by omega, show ¬ 2 < fold by omega]
 refine vcall (zInst k hk loc hl ad ta tc ya yc R2 (hc.mono hle2)) ?_
 rintro R3 r hle3 ⟨u, rfl, hu⟩
 unfold instsC
 obtain ⟨⟨L, e, bf⟩, hres⟩ : ∃ res, res = instC k loc := ⟨_, rfl⟩
 unfold instC at hres
 rw [← hres] at hbd hlen
 unfold instC at hu ⊢
 rw [← hres] at hu ⊢
 simp only [List.length_nil, Nat.zero_add] at hbd hlen hu ⊢
 obtain ⟨ua, uc, rfl, huc, huf⟩ := hu.form
 try simp only [go_sem, ↓reduceIte, Qa, Qb, Qc, Qd, Qe, Qf, reduceCtorEq]
 refine ⟨fun h0 => ?_, fun h0 => ?_⟩
 ·obtain rfl : L = [] := List.eq_nil_of_length_eq_zero (by omega)
  rw [if_pos rfl]
  refine vcall (zPol R3) ?_
  rintro R4 r hle4 rfl
  have hg3 : gap = 0 ∨ gap = 1 ∨ gap = 2 := by omega
  rcases hg3 with rfl | rfl | rfl
  ·try simp only [go_sem, ↓reduceIte, Qa, Qb, Qc, Qd, Qe, Qf, reduceCtorEq]
   refine ⟨by omega, by omega, ?_⟩
   try simp only [go_sem, ↓reduceIte, Qa, Qb, Qc, Qd, Qe, Qf, reduceCtorEq, Ja, Jb, Jc, Jd, Je, Jf]
   refine ⟨hbPol1, vcall (zPol1 loc e bf R4) ?_⟩
   intro R5 u5 hle5 hu5
   have hu6 := hu5
   obtain ⟨pa, pc, rfl, _, _⟩ := hu5.form
   try simp only [go_sem, ↓reduceIte, Qa, Qb, Qc, Qd, Qe, Qf, reduceCtorEq]
   exact ⟨_, rfl, by simpa [polC] using hu6⟩
  ·try simp only [go_sem, ↓reduceIte, Qa, Qb, Qc, Qd, Qe, Qf, reduceCtorEq]
   refine ⟨by omega, by omega, ?_⟩
   try simp only [go_sem, ↓reduceIte, Qa, Qb, Qc, Qd, Qe, Qf, reduceCtorEq, Ja, Jb, Jc, Jd, Je, Jf]
   refine ⟨hbPol2, vcall (zPol2 loc e bf (by omega) R4) ?_⟩
   intro R5 u5 hle5 hu5
   have hu6 := hu5
   obtain ⟨pa, pc, rfl, _, _⟩ := hu5.form
   try simp only [go_sem, ↓reduceIte, Qa, Qb, Qc, Qd, Qe, Qf, reduceCtorEq]
   exact ⟨_, rfl, by simpa [polC] using hu6⟩
  ·try simp only [go_sem, ↓reduceIte, Qa, Qb, Qc, Qd, Qe, Qf, reduceCtorEq]
   refine ⟨by omega, by omega, ?_⟩
   try simp only [go_sem, ↓reduceIte, Qa, Qb, Qc, Qd, Qe, Qf, reduceCtorEq, Ja, Jb, Jc, Jd, Je, Jf]
   refine ⟨hbPol3, vcall (zPol3 loc e bf R4) ?_⟩
   intro R5 u5 hle5 hu5
   have hu6 := hu5
   obtain ⟨pa, pc, rfl, _, _⟩ := hu5.form
   try simp only [go_sem, ↓reduceIte, Qa, Qb, Qc, Qd, Qe, Qf, reduceCtorEq]
   exact ⟨_, rfl, by simpa [polC] using hu6⟩
 ·rw [if_neg (fun hh => h0 (by rw [hh]; rfl))]
  have hpos : 0 < L.length := by omega
  refine ⟨fun hf0 => ?_, fun hf0 => ⟨fun hf1 => ?_, fun hf1 => ?_⟩⟩
  ·rw [if_pos hf0]
   refine ⟨0, 1, rfl, rfl, by omega, by omega, _, rfl, ?_⟩
   exact Ints.sub hu (lo := 0) (hi := 1) (by omega) (by omega)
  ·rw [if_neg hf0, if_pos hf1]
   refine ⟨_, W.in64 (by omega), L.length - 1, L.length, by omega, rfl, by omega, by omega, _, rfl, ?_⟩
   have := Ints.sub hu (lo := L.length - 1) (hi := L.length) (by omega) (by omega)
   rwa [List.take_length] at this
  ·rw [if_neg hf0, if_neg hf1]
   exact ⟨_, rfl, hu⟩
end Go.Proofs.YtdgndfabdmecmaaGreat
namespace Go.Proofs.YtdgndfabdmecmaaGreat
set_option linter.unusedSectionVars false
variable [Go.Proofs.YtdgndfabdmecmaaGreat.Vc.Drew]
open Go.Proofs.YtdgndfabdmecmaaGreat.Vc
def AscM (l : List Mv) : Prop := l.Pairwise fun a b => a.day < b.day
theorem sWithin (n lo hi : Int) (R : RO) : CallsR Tryz.prog 35 [.int .i64 n, .int .i64 lo, .int .i64 hi] R fun _ v => v = .bool (betw lo n hi) := by
 refine callsT mix Tryz.func35 comp35 (by simp [Tryz.ntmps35]) ?_; simp only [go_sem, ↓reduceIte, Qa, Qb, Qc, Qd, Qe, Qf, reduceCtorEq, vc35, rs35]
 unfold betw
 refine ⟨fun h => ?_, fun h => ?_⟩
 ·congr 1; exact decide_eq_decide.2 (by omega)
 ·congr 1; exact (decide_eq_false (by omega)).symm
theorem sMoveOK (m : Mv) (R : RO) : CallsR Tryz.prog 71 [m.val] R fun _ v => v = .bool (moveOK m) := by
 obtain ⟨day, drop, toDay, minute, length⟩ := m
 simp only [Mv.val]
 refine callsT mix Tryz.func71 comp71 (by simp [Tryz.ntmps71]) ?_; simp only [go_sem, ↓reduceIte, Qa, Qb, Qc, Qd, Qe, Qf, reduceCtorEq, vc71, rs71]
 refine ⟨fun hd => ?_, fun hd => ?_⟩
 ·subst hd
  refine vcall (sWithin day 0 1099511627776 R) ?_
  rintro R1 v h1 rfl
  try simp only [go_sem, ↓reduceIte, Qa, Qb, Qc, Qd, Qe, Qf, reduceCtorEq]
  unfold moveOK
  exact ⟨fun h => by simp [h], fun h => by simp [h]⟩
 ·subst hd
  refine vcall (sWithin day 0 1099511627776 R) ?_
  rintro R1 v h1 rfl
  try simp only [go_sem, ↓reduceIte, Qa, Qb, Qc, Qd, Qe, Qf, reduceCtorEq]
  unfold moveOK
  refine ⟨fun h => ?_, fun h => by simp [h]⟩
  refine vcall (sWithin toDay 0 1099511627776 R1) ?_
  rintro R2 v h2 rfl
  try simp only [go_sem, ↓reduceIte, Qa, Qb, Qc, Qd, Qe, Qf, reduceCtorEq]
  refine ⟨fun g1 => ?_, fun g1 => by simp [h, g1]⟩
  refine vcall (sWithin minute 0 1439 R2) ?_
  rintro R3 v h3 rfl
  try simp only [go_sem, ↓reduceIte, Qa, Qb, Qc, Qd, Qe, Qf, reduceCtorEq]
  refine ⟨fun g2 => ?_, fun g2 => by simp [h, g1, g2]⟩
  refine vcall (sWithin length 1 10080 R3) ?_
  rintro R4 v h4 rfl
  try simp only [go_sem, ↓reduceIte, Qa, Qb, Qc, Qd, Qe, Qf, reduceCtorEq]
  simp [h, g1, g2]
theorem sByDay (x : Mv) (t : Int) (R : RO) : CallsR Tryz.prog 74 [.agg x.cells.toArray, .int .i64 t] R fun _ v => v = .int .i64 (cmpI x.day t) := by
 simp only [Mv.cells]
 refine callsT mix Tryz.func74 comp74 (by simp [Tryz.ntmps74]) ?_; simp only [go_sem, ↓reduceIte, Qa, Qb, Qc, Qd, Qe, Qf, reduceCtorEq, vc74, rs74]
 refine vcall (eCompare x.day t R) ?_
 rintro R1 v h1 rfl
 try simp only [go_sem, ↓reduceIte, Qa, Qb, Qc, Qd, Qe, Qf, reduceCtorEq]
structure SearchM (l : List Mv) (t : Int) (i : Nat) (b : Bool) : Prop where
 le : i ≤ l.length
 lt : ∀ a (h : a < l.length), a < i → l[a].day < t
 ge : ∀ a (h : a < l.length), i ≤ a → t ≤ l[a].day
 ok : b = true ↔ ∃ h : i < l.length, l[i].day = t
theorem hbByDay : hasBody Tryz.prog 74 = true := by kernel_rfl
theorem sSearch (l : List Mv) (ha : AscM l) (t : Int) (v : Value) (R : RO) (h : EncV Mv.cells 5 R v l) : CallsR Tryz.prog 73 [v, .int .i64 t, .func (.func 74) #[] #[]] R fun _ r => ∃ (i : Nat) (b : Bool), r = .tuple #[.int .i64 i, .bool b] ∧ SearchM l t i b := by
 have hl := h.2
 obtain ⟨a, cap, rfl, hc, hf⟩ := h.form
 refine callsT mix Tryz.func73 comp73 (by simp [Tryz.ntmps73]) ?_; simp only [go_sem, ↓reduceIte, Qa, Qb, Qc, Qd, Qe, Qf, reduceCtorEq, vc73, rs73]
 refine vcLoop (Nat × Nat) (fun x => [(9, .val (.int .i64 x.1)), (10, .val (.int .i64 x.2)), (8, .val (.int .i64 l.length)), (0, .val (.slice a l.length cap)), (1, .val (.int .i64 t)), (2, .val (.func (.func 74) #[] #[]))]) (fun _ => [])
  (fun x _ => x.1 ≤ x.2 ∧ x.2 ≤ l.length ∧ (∀ a (h : a < l.length), a < x.1 → l[a].day < t) ∧ ∀ a (h : a < l.length), x.2 ≤ a → t ≤ l[a].day) (fun x => x.2 - x.1) (0, l.length) ?_ ?_ ?_ ?_
 ·(try simp only [go_sem, ↓reduceIte, Qa, Qb, Qc, Qd, Qe, Qf, reduceCtorEq]) <;> (repeat' (first | rfl | trivial | constructor | (intro h; exact absurd rfl h)))
 ·try simp only [go_sem, ↓reduceIte, Qa, Qb, Qc, Qd, Qe, Qf, reduceCtorEq]
 ·exact ⟨Nat.zero_le _, Nat.le_refl _, fun a h h' => absurd h' (Nat.not_lt_zero _), fun a h h' => by dsimp only at h'; omega⟩
 rintro ⟨i, j⟩ env R1 hle1 hE ⟨hij, hj, h1, h2⟩
 simp only at hE hij hj h1 h2
 (simp only [go_sem] at hE; obtain ⟨e9, e10, e8, e0, e1, e2⟩ := hE; simp only [go_sem, ↓reduceIte, Qa, Qb, Qc, Qd, Qe, Qf, reduceCtorEq, e9, e10, e8, e0, e1, e2]; dsimp only at *)
 refine ⟨fun hlt => ?_, fun hge => ?_⟩
 ·have hm1 : i ≤ (i + j) / 2 := by omega
  have hm2 : (i + j) / 2 < j := by omega
  obtain ⟨m, hm⟩ : ∃ m, m = (i + j) / 2 := ⟨_, rfl⟩
  rw [← hm] at hm1 hm2
  have hfd : ((i : Int) + j).fdiv (2 ^ min (Int.toNat 1) 64) = m := by
   rw [show (2 : Int) ^ min (Int.toNat 1) 64 = 2 from rfl, Int.fdiv_eq_ediv_of_nonneg _ (by omega)]; omega
  have hml : m < l.length := by omega
  obtain ⟨ad, had, hR⟩ := hf m hml
  refine ⟨_, W.in64 (by omega), (i : Int) + j, ?_, by omega, m, ?_, by omega, by omega, ?_⟩
  ·exact W.u64 (by omega)
  ·rw [hfd]; exact W.in64 (by omega)
  rw [Int.toNat_natCast]
  refine vat ad had ?_
  try simp only [go_sem, ↓reduceIte, Qa, Qb, Qc, Qd, Qe, Qf, reduceCtorEq]
  refine vloadn l[m].cells rfl (fun k u hk => hle1 _ _ (hR k u hk)) ?_
  simp only [go_sem, ↓reduceIte, Qa, Qb, Qc, Qd, Qe, Qf, reduceCtorEq, e9, e10, e8, e0, e1, e2]
  refine ⟨hbByDay, vcall (sByDay l[m] t R1) ?_⟩
  rintro R2 r hle2 rfl
  simp only [go_sem, ↓reduceIte, Qa, Qb, Qc, Qd, Qe, Qf, reduceCtorEq, e9, e10, e8, e0, e1, e2]
  have hcm := cmpI_lt l[m].day t
  refine ⟨fun hlt2 => ?_, fun hge2 => ?_⟩
  ·refine ⟨_, W.in64 (by omega), (m + 1, j), by dsimp only; omega, ⟨by norm_cast, rfl⟩, by dsimp only; omega, hj, fun a h h' => ?_, h2⟩
   have hpm := hcm.1 hlt2
   by_cases ham : a = m
   ·subst ham; exact hpm
   ·have := (List.pairwise_iff_getElem.1 ha) a m h hml (by dsimp only at h'; omega)
    omega
  ·refine ⟨(i, m), by dsimp only; omega, ⟨rfl, rfl⟩, by dsimp only; omega, by dsimp only; omega, h1, fun a h h' => ?_⟩
   have hpm : t ≤ l[m].day := by
    rcases Int.lt_or_le l[m].day t with hh | hh
    ·exact absurd (hcm.2 hh) hge2
    ·exact hh
   by_cases ham : a = m
   ·subst ham; exact hpm
   ·have := (List.pairwise_iff_getElem.1 ha) m a hml h (by dsimp only at h'; omega)
    omega
 ·obtain rfl : i = j := by omega
  refine ⟨fun hlt => ⟨hlt, ?_⟩, fun hlt => ?_⟩
  ·have hlt' : i < l.length := by omega
   obtain ⟨ad, had, hR⟩ := hf i hlt'
   refine vat ad had ?_
   try simp only [go_sem, ↓reduceIte, Qa, Qb, Qc, Qd, Qe, Qf, reduceCtorEq]
   refine vloadn l[i].cells rfl (fun k u hk => hle1 _ _ (hR k u hk)) ?_
   simp only [go_sem, ↓reduceIte, Qa, Qb, Qc, Qd, Qe, Qf, reduceCtorEq, e9, e10, e8, e0, e1, e2]
   refine ⟨hbByDay, vcall (sByDay l[i] t R1) ?_⟩
   rintro R2 r hle2 rfl
   simp only [go_sem, ↓reduceIte, Qa, Qb, Qc, Qd, Qe, Qf, reduceCtorEq, e9, e10, e8, e0, e1, e2]
   exact ⟨i, _, rfl, by omega, h1, h2, by rw [decide_eq_true_iff, cmpI_eq]; exact ⟨fun e => ⟨hlt', e⟩, fun ⟨_, e⟩ => e⟩⟩
  ·exact ⟨i, false, rfl, by omega, h1, h2, ⟨fun h => absurd h (by simp), fun ⟨h, _⟩ => absurd h (by omega)⟩⟩
structure Ins where
 day : Int
 f : Int
 t : Int
 deriving DecidableEq
def Ins.cells (x : Ins) : List Value := [.int .i64 x.day, .int .i64 x.f, .int .i64 x.t]
def mvOnT (ms : List Mv) (day : Int) : Option Mv := ms.find? fun m => decide (m.day = day)
theorem mvOnT_search {ms : List Mv} (ha : AscM ms) {day : Int} {i : Nat} {b : Bool} (h : SearchM ms day i b) : (b = true → ∃ hi : i < ms.length, mvOnT ms day = some ms[i]) ∧ (b = false → mvOnT ms day = none) := by
 refine ⟨fun hb => ?_, fun hb => ?_⟩
 ·obtain ⟨hi, e⟩ := h.ok.1 hb
  refine ⟨hi, ?_⟩
  unfold mvOnT
  rw [List.find?_eq_some_iff_getElem]
  exact ⟨by simpa using e, i, hi, rfl, fun j hj => by have := h.lt j (by omega) hj; simp; omega⟩
 ·unfold mvOnT
  rw [List.find?_eq_none]
  intro m hm
  obtain ⟨a, ha', rfl⟩ := List.mem_iff_getElem.1 hm
  simp only [decide_eq_true_eq]
  intro e
  rcases Nat.lt_or_ge a i with h1 | h1
  ·have := h.lt a ha' h1; omega
  ·have h2 := h.ge a ha' h1
   have hi : i < ms.length := by omega
   have h3 := h.ge i hi (Nat.le_refl _)
   by_cases hai : a = i
   ·subst hai
    exact absurd (h.ok.2 ⟨ha', e⟩) (by rw [hb]; simp)
   ·have := (List.pairwise_iff_getElem.1 ha) i a hi ha' (by omega)
    omega
theorem instF_elem {k : Ck} (hk : CkOK k) {loc : Int} (hl : -2251799813684168 ≤ loc ∧ loc ≤ 2251799813684168) : ∀ (f : Nat) (t : Int) (l : List Int), (∀ x ∈ l, -4503599627370496 ≤ x ∧ x ≤ 4503599627370496) → t ≤ loc + 1080 → (∀ x ∈ (instF k loc f t l).1, -4503599627370496 ≤ x ∧ x ≤ 4503599627370496) ∧ (-4503599627370496 ≤ (instF k loc f t l).2.1 ∧ (instF k loc f t l).2.1 ≤ 4503599627370496)
 | 0, t, l, h, ht => by simpa [instF] using h
 | f + 1, t, l, h, ht => by
  have ho := offC_bd hk t
  have hA : ∀ (c : Prop) [Decidable c], ∀ x ∈ (if c then l ++ [loc - offC k t] else l), -4503599627370496 ≤ x ∧ x ≤ 4503599627370496 := fun c _ x hx => by
   split at hx
   ·rcases List.mem_append.1 hx with hx | hx
    ·exact h x hx
    ·simp only [List.mem_cons, List.not_mem_nil, or_false] at hx; subst hx; omega
   ·exact h x hx
  rw [instF]
  split
  ·exact ⟨fun x hx => hA _ x (by simpa [sortI] using hx), by simp only; omega⟩
  ·rename_i y hy
   obtain ⟨y1, y2, y3⟩ := lastC_facts hk hy
   split
   ·exact ⟨fun x hx => hA _ x (by simpa [sortI] using hx), by simp only; omega⟩
   ·split
    ·exact ⟨by simp, by simp only; omega⟩
    ·exact instF_elem hk hl f _ _ (hA _) (by omega)
theorem instsC_bd {k : Ck} (hk : CkOK k) {loc gap fold : Int} (hl : -2251799813684168 ≤ loc ∧ loc ≤ 2251799813684168) : ∀ x ∈ instsC k loc gap fold, -4503599627370496 ≤ x ∧ x ≤ 4503599627370496 := by
 obtain ⟨h1, h2⟩ := instF_elem hk hl 2200 (loc + 1080) [] (by simp) (Int.le_refl _)
 have h3 := instF_bd hk (loc := loc) 2200 (loc + 1080) []
 intro x hx
 unfold instsC instC polC at hx
 split at hx
 ·split at hx
  ·simp at hx
  ·split at hx
   ·simp only [List.mem_cons, List.not_mem_nil, or_false] at hx; subst hx; omega
   ·simp only [List.mem_cons, List.not_mem_nil, or_false] at hx; subst hx; exact h2
 ·split at hx
  ·exact h1 x (List.mem_of_mem_take hx)
  ·split at hx
   ·exact h1 x (List.mem_of_mem_drop hx)
   ·exact h1 x hx
theorem instsC_len {k : Ck} {loc gap fold : Int} : (instsC k loc gap fold).length ≤ 2200 := by
 have h := instF_len (k := k) (loc := loc) 2200 (loc + 1080) []
 simp only [List.length_nil, Nat.zero_add] at h
 unfold instsC instC polC
 split
 ·split
  ·simp
  ·split <;> simp
 ·split
  ·simp; omega
  ·split
   ·simp; omega
   ·exact h
def onC (k : Ck) (ms : List Mv) (minute length gap fold day : Int) : List Ins := match mvOnT ms day with
 | some m => if m.drop then [] else (instsC k (m.toDay * 1440 + m.minute) gap fold).map fun t => ⟨day, t, t + m.length⟩
 | none => (instsC k (day * 1440 + minute) gap fold).map fun t => ⟨day, t, t + length⟩
end Go.Proofs.YtdgndfabdmecmaaGreat
namespace Go.Proofs.YtdgndfabdmecmaaGreat
set_option linter.unusedSectionVars false
variable [Go.Proofs.YtdgndfabdmecmaaGreat.Vc.Drew]
open Go.Proofs.YtdgndfabdmecmaaGreat.Vc
theorem moveOK_bd {m : Mv} (h : moveOK m = true) : (0 ≤ m.day ∧ m.day ≤ 1099511627776) ∧ (m.drop = false → (0 ≤ m.toDay ∧ m.toDay ≤ 1099511627776) ∧ (0 ≤ m.minute ∧ m.minute ≤ 1439) ∧ (1 ≤ m.length ∧ m.length ≤ 10080)) := by
 unfold moveOK betw at h
 simp only [Bool.and_eq_true, decide_eq_true_eq] at h
 refine ⟨h.1, fun hd => ?_⟩
 have h2 := h.2
 rw [hd] at h2
 simp only [Bool.false_eq_true, if_false, Bool.and_eq_true, decide_eq_true_eq] at h2
 exact ⟨h2.1.1, h2.1.2, h2.2⟩
def rowI (l : List Ins) : List Value := (l.map Ins.cells).flatten
theorem rowI_len (l : List Ins) : (rowI l).length = l.length * 3 := by
 unfold rowI
 rw [length_flattenK (k := 3) (fun us hus => by obtain ⟨x, _, rfl⟩ := List.mem_map.1 hus; rfl)]
 simp
theorem rowI_snoc (l : List Ins) (x : Ins) : rowI (l ++ [x]) = rowI l ++ x.cells := by simp [rowI]
set_option maxHeartbeats 2000000 in
theorem sOnI (s : Se) (ms : List Mv) (z : Zv) (k : Ck) (hk : CkOK k) (day : Int) (R : RO) (hr : s.rule.oneCell' = true) (hm : EncV Mv.cells 5 R s.moves ms) (hms : ∀ m ∈ ms, moveOK m = true) (hasc : AscM ms) (hmin : 0 ≤ s.minute ∧ s.minute ≤ 1439) (hlen : 1 ≤ s.length ∧ s.length ≤ 10080)
  (hgap : 0 ≤ s.gap ∧ s.gap ≤ 2) (hfold : 0 ≤ s.fold ∧ s.fold ≤ 2) (hday : 0 ≤ day ∧ day ≤ 1099511627776) (hO : OpenC R z k) :
  CallsR Tryz.prog 36 [.agg s.cells.toArray, .agg z.cells.toArray, .int .i64 day] R fun R' r => EncV Ins.cells 3 R' r (onC k ms s.minute s.length s.gap s.fold day) := by
 have hm0 := hm
 obtain ⟨sr, sm, sl, sz, sg, sf, smv⟩ := s
 dsimp only at hr hm hm0 hmin hlen hgap hfold ⊢
 obtain ⟨ma, mcap, rfl, hmc, hmf⟩ := hm.form
 have hml := hm0.2
 have hI := fun R' (hle : RO.le R R') loc hl => zInstants z k hk loc sg sf hl hgap hfold R' (hO.mono hle)
 simp only [Se.cells, Zv.cells] at hI ⊢
 refine callsT mix Tryz.func36 comp36 (by simp [Tryz.ntmps36]) ?_; simp only [go_sem, ↓reduceIte, Qa, Qb, Qc, Qd, Qe, Qf, reduceCtorEq, vc36, rs36]
 refine ⟨_, W.in64 (by omega), _, W.in64 (by omega), ?_⟩
 refine vcall (sSearch ms hasc day _ R hm0) ?_
 rintro R1 r hle1 ⟨i, b, rfl, hP⟩
 obtain ⟨g1, g2⟩ := mvOnT_search hasc hP
 unfold onC
 cases b with
 | false =>
  rw [g2 rfl]
  simp only
  try simp only [go_sem, ↓reduceIte, Qa, Qb, Qc, Qd, Qe, Qf, reduceCtorEq]
  refine vcall (hI R1 hle1 (day * 1440 + sm) (by omega)) ?_
  rintro R3 r hle3 ⟨u, rfl, hu⟩
  obtain ⟨ua, uc, rfl, huc, huf⟩ := hu.form
  obtain ⟨L, hL⟩ : ∃ L, L = instsC k (day * 1440 + sm) sg sf := ⟨_, rfl⟩
  have hLb := instsC_bd hk (loc := (day * 1440 + sm)) (gap := sg) (fold := sf) (by omega)
  have hLn := instsC_len (k := k) (loc := (day * 1440 + sm)) (gap := sg) (fold := sf)
  rw [← hL] at hu huf huc hLb hLn ⊢
  try simp only [go_sem, ↓reduceIte, Qa, Qb, Qc, Qd, Qe, Qf, reduceCtorEq]
  refine vcLoopR Nat (fun i => [(59, .val (.int .i64 i)), (57, .val (.slice ua L.length uc)), (58, .val (.int .i64 L.length)), (2, .val (.int .i64 day)), (8, .val (.int .i64 sl)), (14, gs 0 i)])
   (fun i => [gb 84 3 (rowI ((L.take i).map fun t => ⟨day, t, t + sl⟩))]) (fun i _ => i ≤ L.length) (fun i => L.length - i) 0 [] ?_ ?_ ?_ ?_
  ·(try simp only [go_sem, ↓reduceIte, Qa, Qb, Qc, Qd, Qe, Qf, reduceCtorEq]) <;> (repeat' (first | rfl | trivial | constructor | (intro h; exact absurd rfl h)))
  ·try simp only [go_sem, ↓reduceIte, Qa, Qb, Qc, Qd, Qe, Qf, reduceCtorEq]
  ·exact Nat.zero_le _
  rintro i env R4 hle4 hE hi
  (simp only [go_sem] at hE; obtain ⟨e59, e57, e58, e2, e8, e14⟩ := hE; simp only [go_sem, ↓reduceIte, Qa, Qb, Qc, Qd, Qe, Qf, reduceCtorEq, e59, e57, e58, e2, e8, e14]; dsimp only at *)
  refine ⟨fun hlt => ?_, fun hge => ?_⟩
  ·have hlt' : i < L.length := by omega
   obtain ⟨ad, had, hR⟩ := huf i hlt'
   have hb := hLb _ (List.getElem_mem hlt')
   refine ⟨by omega, vat ad had ?_⟩
   try simp only [go_sem, ↓reduceIte, Qa, Qb, Qc, Qd, Qe, Qf, reduceCtorEq]
   refine vload _ (hle4 _ _ hR) ?_
   simp only [go_sem, ↓reduceIte, Qa, Qb, Qc, Qd, Qe, Qf, reduceCtorEq, e59, e57, e58, e2, e8, e14]
   refine ⟨_, W.in64 (by omega), ?_⟩
   have hil : (rowI ((L.take i).map fun t => (⟨day, t, t + sl⟩ : Ins))).length = i * 3 := by rw [rowI_len]; simp; omega
   refine vgrow (rowI ((L.take i).map fun t => ⟨day, t, t + sl⟩)) (fun h0 => by rw [gb_ne h0]; rfl) (fun h0 => by rw [h0, gb_nil]; rfl) hil (by omega) (by omega) (by omega) ?_
   simp only [go_sem, ↓reduceIte, Qa, Qb, Qc, Qd, Qe, Qf, reduceCtorEq, e59, e57, e58, e2, e8, e14]
   refine ⟨_, W.in64 (by omega), i + 1, [2], by omega, ⟨⟨by norm_cast, rfl⟩, fun _ => ?_⟩, by decide, by omega⟩
   rw [List.take_succ_eq_append_getElem hlt', List.map_append, List.map_cons, List.map_nil, rowI_snoc]
   rfl
  ·obtain rfl : i = L.length := by omega
   rw [List.take_length]
   by_cases hl0 : L.length = 0
   ·obtain rfl : L = [] := List.eq_nil_of_length_eq_zero hl0
    rw [List.length_nil, gs_zero]
    try simp only [go_sem, ↓reduceIte, Qa, Qb, Qc, Qd, Qe, Qf, reduceCtorEq]
    exact EncV.nil _ _ _
   ·rw [gs_pos hl0, gb_ne (fun e => hl0 (by have := rowI_len (L.map fun t => (⟨day, t, t + sl⟩ : Ins)); rw [e] at this; simp at this; omega))]
    try simp only [go_sem, ↓reduceIte, Qa, Qb, Qc, Qd, Qe, Qf, reduceCtorEq]
    intro b cap R5 hle5 hrow hcap hfr
    have := RowIn.enc (enc := Ins.cells) (k := 3) (xs := L.map fun t => (⟨day, t, t + sl⟩ : Ins)) (fun _ => rfl) (by omega) hrow hcap (by simp; omega)
    rwa [List.length_map] at this
 | true =>
  obtain ⟨hi, hx⟩ := g1 rfl
  rw [hx]
  obtain ⟨mad, hmad, hmR⟩ := hmf i hi
  obtain ⟨m, hmd⟩ : ∃ m, m = ms[i] := ⟨_, rfl⟩
  have hmok := moveOK_bd (hms _ (List.getElem_mem hi))
  rw [← hmd] at hmR hmok ⊢
  simp only
  try simp only [go_sem, ↓reduceIte, Qa, Qb, Qc, Qd, Qe, Qf, reduceCtorEq]
  refine ⟨by omega, vat mad hmad ?_⟩
  try simp only [go_sem, ↓reduceIte, Qa, Qb, Qc, Qd, Qe, Qf, reduceCtorEq]
  refine vloadn m.cells rfl (fun j u hj => hle1 _ _ (hmR j u hj)) ?_
  simp only [go_sem, ↓reduceIte, Qa, Qb, Qc, Qd, Qe, Qf, reduceCtorEq, Mv.cells]
  refine ⟨fun hd => ?_, fun hd => ?_⟩
  ·rw [if_pos hd]
   exact EncV.nil _ _ _
  ·rw [if_neg (by rw [hd]; simp)]
   obtain ⟨hb1, hb2, hb3⟩ := hmok.2 hd
   refine ⟨_, W.in64 (by omega), _, W.in64 (by omega), ?_⟩
   refine vcall (hI R1 hle1 (m.toDay * 1440 + m.minute) (by omega)) ?_
   rintro R3 r hle3 ⟨u, rfl, hu⟩
   obtain ⟨ua, uc, rfl, huc, huf⟩ := hu.form
   obtain ⟨L, hL⟩ : ∃ L, L = instsC k (m.toDay * 1440 + m.minute) sg sf := ⟨_, rfl⟩
   have hLb := instsC_bd hk (loc := (m.toDay * 1440 + m.minute)) (gap := sg) (fold := sf) (by omega)
   have hLn := instsC_len (k := k) (loc := (m.toDay * 1440 + m.minute)) (gap := sg) (fold := sf)
   rw [← hL] at hu huf huc hLb hLn ⊢
   try simp only [go_sem, ↓reduceIte, Qa, Qb, Qc, Qd, Qe, Qf, reduceCtorEq]
   refine vcLoopR Nat (fun i => [(59, .val (.int .i64 i)), (57, .val (.slice ua L.length uc)), (58, .val (.int .i64 L.length)), (2, .val (.int .i64 day)), (8, .val (.int .i64 m.length)), (14, gs 0 i)])
    (fun i => [gb 84 3 (rowI ((L.take i).map fun t => ⟨day, t, t + m.length⟩))]) (fun i _ => i ≤ L.length) (fun i => L.length - i) 0 [] ?_ ?_ ?_ ?_
   ·(try simp only [go_sem, ↓reduceIte, Qa, Qb, Qc, Qd, Qe, Qf, reduceCtorEq]) <;> (repeat' (first | rfl | trivial | constructor | (intro h; exact absurd rfl h)))
   ·try simp only [go_sem, ↓reduceIte, Qa, Qb, Qc, Qd, Qe, Qf, reduceCtorEq]
   ·exact Nat.zero_le _
   rintro i env R4 hle4 hE hi
   (simp only [go_sem] at hE; obtain ⟨e59, e57, e58, e2, e8, e14⟩ := hE; simp only [go_sem, ↓reduceIte, Qa, Qb, Qc, Qd, Qe, Qf, reduceCtorEq, e59, e57, e58, e2, e8, e14]; dsimp only at *)
   refine ⟨fun hlt => ?_, fun hge => ?_⟩
   ·have hlt' : i < L.length := by omega
    obtain ⟨ad, had, hR⟩ := huf i hlt'
    have hb := hLb _ (List.getElem_mem hlt')
    refine ⟨by omega, vat ad had ?_⟩
    try simp only [go_sem, ↓reduceIte, Qa, Qb, Qc, Qd, Qe, Qf, reduceCtorEq]
    refine vload _ (hle4 _ _ hR) ?_
    simp only [go_sem, ↓reduceIte, Qa, Qb, Qc, Qd, Qe, Qf, reduceCtorEq, e59, e57, e58, e2, e8, e14]
    refine ⟨_, W.in64 (by omega), ?_⟩
    have hil : (rowI ((L.take i).map fun t => (⟨day, t, t + m.length⟩ : Ins))).length = i * 3 := by rw [rowI_len]; simp; omega
    refine vgrow (rowI ((L.take i).map fun t => ⟨day, t, t + m.length⟩)) (fun h0 => by rw [gb_ne h0]; rfl) (fun h0 => by rw [h0, gb_nil]; rfl) hil (by omega) (by omega) (by omega) ?_
    simp only [go_sem, ↓reduceIte, Qa, Qb, Qc, Qd, Qe, Qf, reduceCtorEq, e59, e57, e58, e2, e8, e14]
    refine ⟨_, W.in64 (by omega), i + 1, [2], by omega, ⟨⟨by norm_cast, rfl⟩, fun _ => ?_⟩, by decide, by omega⟩
    rw [List.take_succ_eq_append_getElem hlt', List.map_append, List.map_cons, List.map_nil, rowI_snoc]
    rfl
   ·obtain rfl : i = L.length := by omega
    rw [List.take_length]
    by_cases hl0 : L.length = 0
    ·obtain rfl : L = [] := List.eq_nil_of_length_eq_zero hl0
     rw [List.length_nil, gs_zero]
     try simp only [go_sem, ↓reduceIte, Qa, Qb, Qc, Qd, Qe, Qf, reduceCtorEq]
     exact EncV.nil _ _ _
    ·rw [gs_pos hl0, gb_ne (fun e => hl0 (by have := rowI_len (L.map fun t => (⟨day, t, t + m.length⟩ : Ins)); rw [e] at this; simp at this; omega))]
     try simp only [go_sem, ↓reduceIte, Qa, Qb, Qc, Qd, Qe, Qf, reduceCtorEq]
     intro b cap R5 hle5 hrow hcap hfr
     have := RowIn.enc (enc := Ins.cells) (k := 3) (xs := L.map fun t => (⟨day, t, t + m.length⟩ : Ins)) (fun _ => rfl) (by omega) hrow hcap (by simp; omega)
     rwa [List.length_map] at this
end Go.Proofs.YtdgndfabdmecmaaGreat
namespace Go.Proofs.YtdgndfabdmecmaaGreat
set_option linter.unusedSectionVars false
variable [Go.Proofs.YtdgndfabdmecmaaGreat.Vc.Drew]
open Go.Proofs.YtdgndfabdmecmaaGreat.Vc
theorem rwWithin (n lo hi : Int) (R : RO) : CallsR Tryz.prog 148 [.int .i64 n, .int .i64 lo, .int .i64 hi] R fun _ v => v = .bool (betw lo n hi) := by
 refine callsT mix Tryz.func148 comp148 (by simp [Tryz.ntmps148]) ?_; simp only [go_sem, ↓reduceIte, Qa, Qb, Qc, Qd, Qe, Qf, reduceCtorEq, vc148, rs148]
 unfold betw
 refine ⟨fun h => ?_, fun h => ?_⟩
 ·congr 1; exact decide_eq_decide.2 (by omega)
 ·congr 1; exact (decide_eq_false (by omega)).symm
def shapeCells : List Value := [.int .i64 0, .bool false, .int .i64 0, .int .i64 0, .int .i64 0, .bool false, .int .i64 0, .int .i64 0, .int .i64 0, .bool true, .int .i64 0, .int .i64 0, .int .i64 0, .bool true, .int .i64 1, .int .i64 16, .int .i64 0, .bool true, .int .i64 (-40), .int .i64 40, .int .i64 0, .bool false, .int .i64 0, .int .i64 6, .int .i64 0, .bool true, .int .i64 1, .int .i64 54, .int .i64 0, .bool true, .int .i64 0, .int .i64 0, .int .i64 2, .bool false, .int .i64 0, .int .i64 0, .int .i64 2, .bool false, .int .i64 0, .int .i64 0, .int .i64 2, .bool false, .int .i64 0, .int .i64 0, .int .i64 1, .bool false, .int .i64 0, .int .i64 0, .int .i64 1, .bool false, .int .i64 0, .int .i64 0, .int .i64 1, .bool false, .int .i64 0, .int .i64 0, .int .i64 1, .bool false, .int .i64 0, .int .i64 1099511627776, .int .i64 1, .bool false, .int .i64 0, .int .i64 1099511627776, .int .i64 1, .bool true, .int .i64 (-400), .int .i64 400, .int .i64 2, .bool false, .int .i64 0, .int .i64 0, .int .i64 0, .bool false, .int .i64 0, .int .i64 0]
set_option maxRecDepth 50000 in
set_option maxHeartbeats 8000000 in
theorem rShapes (R : RO) : CallsR Tryz.prog 104 [] R fun _ v => v = .agg shapeCells.toArray := by
 refine callsT mix Tryz.func104 comp104 (by simp [Tryz.ntmps104]) ?_; simp only [go_sem, ↓reduceIte, Qa, Qb, Qc, Qd, Qe, Qf, reduceCtorEq, vc104, rs104]
 rfl
def dayNode (n : Int) : Nd := ⟨1, 0, 0, 0, n, 0, [], ⟨#[]⟩⟩
theorem rListOK (a : Option Addr) (c : Nat) (R : RO) : CallsR Tryz.prog 150 [.slice a 0 c, .agg #[.int .i64 0, .int .i64 0]] R fun _ v => v = .bool true := by
 refine callsT mix Tryz.func150 comp150 (by simp [Tryz.ntmps150]) ?_; simp only [go_sem, ↓reduceIte, Qa, Qb, Qc, Qd, Qe, Qf, reduceCtorEq, vc150, rs150]
 rfl
theorem rNumbersOK (n : Int) (hn : 1 ≤ n ∧ n ≤ 1099511627776) (lv : Value) (hl : lv.oneCell' = true) (R : RO) : CallsR Tryz.prog 151 [.agg ((dayNode n).cells lv).toArray] R fun _ v => v = .bool true := by
 simp only [dayNode, Nd.cells]
 refine callsT mix Tryz.func151 comp151 (by simp [Tryz.ntmps151]) ?_; simp only [go_sem, ↓reduceIte, Qa, Qb, Qc, Qd, Qe, Qf, reduceCtorEq, vc151, rs151]
 refine vcall (rwWithin n 1 1099511627776 R) ?_
 rintro R1 r hle1 rfl
 rw [show betw 1 n 1099511627776 = true from decide_eq_true hn]
 try simp only [go_sem, ↓reduceIte, Qa, Qb, Qc, Qd, Qe, Qf, reduceCtorEq]
 refine vcall (rwWithin 0 0 1099511627776 R1) ?_
 rintro R2 r hle2 rfl
 try simp only [go_sem, ↓reduceIte, Qa, Qb, Qc, Qd, Qe, Qf, reduceCtorEq]
 rfl
theorem rIndex0 (a : Option Addr) (c : Nat) (fv : Value) (R : RO) : CallsR Tryz.prog 183 [.slice a 0 c, fv] R fun _ v => v = .int .i64 (-1) := by
 refine callsT mix Tryz.func183 comp183 (by simp [Tryz.ntmps183]) ?_; simp only [go_sem, ↓reduceIte, Qa, Qb, Qc, Qd, Qe, Qf, reduceCtorEq, vc183, rs183]
 refine vcLoop Unit (fun _ => [(8, .val (.int .i64 0)), (7, .val (.int .i64 0))]) (fun _ => []) (fun _ _ => True) (fun _ => 0) () ?_ rfl trivial ?_
 ·(try simp only [go_sem, ↓reduceIte, Qa, Qb, Qc, Qd, Qe, Qf, reduceCtorEq]) <;> (repeat' (first | rfl | trivial | constructor | (intro h; exact absurd rfl h)))
 rintro _ env R2 hle hE _
 (simp only [go_sem] at hE; obtain ⟨e8, e7⟩ := hE; simp only [go_sem, ↓reduceIte, Qa, Qb, Qc, Qd, Qe, Qf, reduceCtorEq, e8, e7]; dsimp only at *)
 exact fun h => absurd h (by omega)
theorem rContains0 (a : Option Addr) (c : Nat) (fv : Value) (R : RO) : CallsR Tryz.prog 152 [.slice a 0 c, fv] R fun _ v => v = .bool false := by
 refine callsT mix Tryz.func152 comp152 (by simp [Tryz.ntmps152]) ?_; simp only [go_sem, ↓reduceIte, Qa, Qb, Qc, Qd, Qe, Qf, reduceCtorEq, vc152, rs152]
 refine vcall (rIndex0 a c fv R) ?_
 rintro R1 r hle1 rfl
 try simp only [go_sem, ↓reduceIte, Qa, Qb, Qc, Qd, Qe, Qf, reduceCtorEq, Ja, Jb, Jc, Jd, Je, Jf]
 try rfl
end Go.Proofs.YtdgndfabdmecmaaGreat
namespace Go.Proofs.YtdgndfabdmecmaaGreat
set_option linter.unusedSectionVars false
variable [Go.Proofs.YtdgndfabdmecmaaGreat.Vc.Drew]
open Go.Proofs.YtdgndfabdmecmaaGreat.Vc
set_option maxRecDepth 50000 in
set_option maxHeartbeats 8000000 in
theorem rWell (n : Int) (hn : 1 ≤ n ∧ n ≤ 1099511627776) (v : Value) (R : RO) (h : RuleV R v [dayNode n]) : CallsR Tryz.prog 102 [v] R fun _ r => r = .bool true := by
 obtain ⟨cs, h1, h2, h3, _⟩ := h
 obtain ⟨a, cap, rfl, hc, hf⟩ := SlK.form h1
 simp only [List.length_cons, List.length_nil, Nat.zero_add] at h2
 obtain ⟨_, ad, had, hR⟩ := hf 0 (by omega)
 obtain ⟨lv, e, hl, _⟩ := h3 0 _ _ (List.getElem?_eq_getElem (by omega)) rfl
 rw [e] at hR
 rw [h2] at hc ⊢
 obtain ⟨la, lc, rfl, _, _⟩ := hl.form
 refine callsT mix Tryz.func102 comp102 (by simp [Tryz.ntmps102]) ?_; simp only [go_sem, ↓reduceIte, Qa, Qb, Qc, Qd, Qe, Qf, reduceCtorEq, vc102, rs102]
 try simp only [go_sem, ↓reduceIte, Qa, Qb, Qc, Qd, Qe, Qf, reduceCtorEq, show ¬ ((1 : Nat) : Int) < 1 by omega, show ¬ (64 : Int) < ((1 : Nat) : Int) by omega]
 refine vcall (rShapes R) ?_
 rintro R1 r hle1 rfl
 try simp only [go_sem, ↓reduceIte, Qa, Qb, Qc, Qd, Qe, Qf, reduceCtorEq]
 refine ⟨by rfl, by rfl, by omega, by omega, ?_⟩
 refine vcLoop Nat (fun i => [(26, .val (.int .i64 i)), (25, .val (.int .i64 1)), (24, .val (.slice a 1 cap)), (3, .loc 0 0), (4, .sl 1 1), (0, .val (.slice a 1 cap))]) (fun _ => [.box (shapeCells.map .val), .row 3 1 [.int .i64 0]]) (fun i _ => i ≤ 1) (fun i => 1 - i) 0 ?_ ?_ ?_ ?_
 ·(try simp only [go_sem, ↓reduceIte, Qa, Qb, Qc, Qd, Qe, Qf, reduceCtorEq]) <;> (repeat' (first | rfl | trivial | constructor | (intro h; exact absurd rfl h)))
 ·try simp only [go_sem, ↓reduceIte, Qa, Qb, Qc, Qd, Qe, Qf, reduceCtorEq]
  rfl
 ·omega
 rintro i env R2 hle2 hE hi
 (simp only [go_sem] at hE; obtain ⟨e26, e25, e24, e3, e4, e0⟩ := hE; simp only [go_sem, ↓reduceIte, Qa, Qb, Qc, Qd, Qe, Qf, reduceCtorEq, e26, e25, e24, e3, e4, e0]; dsimp only at *)
 refine ⟨fun hlt => ?_, fun hge => ?_⟩
 ·obtain rfl : i = 0 := by omega
  refine ⟨by omega, vat ad had ?_⟩
  try simp only [go_sem, ↓reduceIte, Qa, Qb, Qc, Qd, Qe, Qf, reduceCtorEq]
  refine vloadn ((dayNode n).cells (.slice la (dayNode n).list.length lc)) rfl (fun j u hj => hle2 _ _ (hle1 _ _ (hR j u hj))) ?_
  simp only [go_sem, ↓reduceIte, Qa, Qb, Qc, Qd, Qe, Qf, reduceCtorEq, dayNode, Nd.cells, List.length_nil, e26, e25, e24, e3, e4, e0]
  refine vcall (rwWithin 1 1 18 R2) ?_
  rintro R3 r hle3 rfl
  rw [show betw 1 1 18 = true from rfl]
  try simp only [go_sem, ↓reduceIte, Qa, Qb, Qc, Qd, Qe, Qf, reduceCtorEq, e26, e25, e24, e3, e4, e0]
  refine ⟨fun h => absurd h (by omega), fun _ => ⟨by omega, by omega, ?_⟩⟩
  rw [show (List.map SV.val shapeCells)[Int.toNat 1 * 4]? = some (.val (.int .i64 0)) from rfl]
  try simp only [go_sem, ↓reduceIte, Qa, Qb, Qc, Qd, Qe, Qf, reduceCtorEq]
  rw [show (List.map SV.val shapeCells)[Int.toNat 1 * 4 + 1]? = some (.val (.bool false)) from rfl]
  try simp only [go_sem, ↓reduceIte, Qa, Qb, Qc, Qd, Qe, Qf, reduceCtorEq]
  first | rw [show (List.map SV.val shapeCells)[Int.toNat 1 * 4 + 2]? = some (.val (.int .i64 0)) from rfl] | rw [show (List.map SV.val shapeCells)[Int.toNat 1 * 4 + 1 + 1]? = some (.val (.int .i64 0)) from rfl]
  try simp only [go_sem, ↓reduceIte, Qa, Qb, Qc, Qd, Qe, Qf, reduceCtorEq]
  first | rw [show (List.map SV.val shapeCells)[Int.toNat 1 * 4 + 3]? = some (.val (.int .i64 0)) from rfl] | rw [show (List.map SV.val shapeCells)[Int.toNat 1 * 4 + 1 + 1 + 1]? = some (.val (.int .i64 0)) from rfl]
  try simp only [go_sem, ↓reduceIte, Qa, Qb, Qc, Qd, Qe, Qf, reduceCtorEq, e26, e25, e24, e3, e4, e0]
  refine vcLoop Nat (fun k => [(51, .val (.int .i64 k)), (50, .val (.int .i64 2)), (49, .sl 4 2), (26, .val (.int .i64 0)), (25, .val (.int .i64 1)), (24, .val (.slice a 1 cap)), (3, .loc 0 0), (4, .sl 1 1), (0, .val (.slice a 1 cap)), (5, .val (.int .i64 0)), (6, .loc 2 0), (7, .loc 3 0)])
   (fun _ => [.box (shapeCells.map .val), .row 3 1 [.int .i64 0], .box [.val (.int .i64 1), .val (.int .i64 0), .val (.int .i64 0), .val (.int .i64 0), .val (.int .i64 n), .val (.int .i64 0), .val (.slice la 0 lc), .val (.string ⟨#[]⟩)], .box [.val (.int .i64 0), .val (.bool false), .val (.int .i64 0), .val (.int .i64 0)], .row 3 1 [.int .i64 0, .int .i64 0]]) (fun k _ => k ≤ 2) (fun k => 2 - k) 0 ?_ ?_ ?_ ?_
  ·(try simp only [go_sem, ↓reduceIte, Qa, Qb, Qc, Qd, Qe, Qf, reduceCtorEq]) <;> (repeat' (first | rfl | trivial | constructor | (intro h; exact absurd rfl h)))
  ·try simp only [go_sem, ↓reduceIte, Qa, Qb, Qc, Qd, Qe, Qf, reduceCtorEq]
   rfl
  ·omega
  rintro k env R4 hle4 hE hk
  (simp only [go_sem] at hE; obtain ⟨e51, e50, e49, e26', e25', e24', e3', e4', e0', e5, e6, e7⟩ := hE; simp only [go_sem, ↓reduceIte, Qa, Qb, Qc, Qd, Qe, Qf, reduceCtorEq, e51, e50, e49, e26', e25', e24', e3', e4', e0', e5, e6, e7]; dsimp only at *)
  refine ⟨fun hlt => ?_, fun hge => ?_⟩
  ·refine ⟨hlt, .int .i64 0, by rcases (by omega : k = 0 ∨ k = 1) with rfl | rfl <;> rfl, ?_⟩
   refine ⟨fun h => absurd h (by omega), fun _ => ?_⟩
   try simp only [go_sem, ↓reduceIte, Qa, Qb, Qc, Qd, Qe, Qf, reduceCtorEq, e51, e50, e49, e26', e25', e24', e3', e4', e0', e5, e6, e7]
   refine ⟨_, W.in64 (by omega), k + 1, by omega, ⟨by norm_cast, rfl⟩, rfl, by omega⟩
  ·refine ⟨fun h => absurd h (by decide), fun _ => ?_⟩
   refine ⟨fun _ => ?_, fun h => absurd h (by first | decide | simp)⟩
   refine vcall (rListOK la lc R4) ?_
   rintro R5 r hle5 rfl
   try simp only [go_sem, ↓reduceIte, Qa, Qb, Qc, Qd, Qe, Qf, reduceCtorEq, e51, e50, e49, e26', e25', e24', e3', e4', e0', e5, e6, e7]
   have hN := rNumbersOK n hn (.slice la 0 lc) rfl R5
   simp only [dayNode, Nd.cells] at hN
   refine vcall hN ?_
   rintro R6 r hle6 rfl
   try simp only [go_sem, ↓reduceIte, Qa, Qb, Qc, Qd, Qe, Qf, reduceCtorEq, e51, e50, e49, e26', e25', e24', e3', e4', e0', e5, e6, e7]
   refine ⟨_, W.in64 (by omega), 1, by omega, ⟨rfl, rfl⟩, rfl, by omega⟩
 ·obtain rfl : i = 1 := by omega
  refine ⟨_, W.in64 (by omega), 0, 0, rfl, by omega, Nat.le_refl 0, ⟨3, _, ⟨rfl, rfl⟩, by omega⟩, ?_⟩
  try simp only [go_sem, ↓reduceIte, Qa, Qb, Qc, Qd, Qe, Qf, reduceCtorEq]
  refine vfreeze ?_
  try simp only [go_sem, ↓reduceIte, Qa, Qb, Qc, Qd, Qe, Qf, reduceCtorEq]
  intro b cap' R3 hle3 hrow hcap hfr
  refine vcall (rContains0 _ _ _ R3) ?_
  rintro R4 r hle4 rfl
  try simp only [go_sem, ↓reduceIte, Qa, Qb, Qc, Qd, Qe, Qf, reduceCtorEq]
end Go.Proofs.YtdgndfabdmecmaaGreat
namespace Go.Proofs.YtdgndfabdmecmaaGreat
set_option linter.unusedSectionVars false
variable [Go.Proofs.YtdgndfabdmecmaaGreat.Vc.Drew]
open Go.Proofs.YtdgndfabdmecmaaGreat.Vc
theorem rWalk (n : Int) (a : Option Addr) (cap : Nat) (R : RO) (h : ∃ ad, a = some ad ∧ R ad (.int .i64 1)) :
  CallsS Tryz.prog 103 [.val (.int .i64 0), .loc 1 0, .loc 2 0, .loc 3 0] [.mp [] 0, .box [.mp 0], .box [.val (.slice a 1 cap)], .box [.fn 103 [.l 1 0, .l 2 0, .l 3 0]]] R fun R' bs r => ∃ e : MapEntry, e.key = .int .i64 0 ∧ e.val = .bool true ∧ bs = [.mp [e] 1, .box [.mp 0], .box [.val (.slice a 1 cap)], .box [.fn 103 [.l 1 0, .l 2 0, .l 3 0]]] ∧ r = .val (.tuple #[]) := by
 obtain ⟨ad, rfl, hR⟩ := h
 refine callsTS mix Tryz.func103 comp103 (by simp [Tryz.ntmps103]) rfl rfl ?_; simp only [go_sem, ↓reduceIte, Qa, Qb, Qc, Qd, Qe, Qf, reduceCtorEq, vc103, rs103]
 refine ⟨by rfl, vmput [] 0 none rfl rfl ?_⟩
 simp only [go_sem, ↓reduceIte, Qa, Qb, Qc, Qd, Qe, Qf, reduceCtorEq, mset]
 refine ⟨by omega, by omega, vload (.int .i64 1) (by have := hR; rwa [← Addr.add_zero' ad] at this) ?_⟩
 try simp only [go_sem, ↓reduceIte, Qa, Qb, Qc, Qd, Qe, Qf, reduceCtorEq]
 refine vcall (rShapes R) ?_
 rintro R1 r hle1 rfl
 try simp only [go_sem, ↓reduceIte, Qa, Qb, Qc, Qd, Qe, Qf, reduceCtorEq]
 refine ⟨by omega, by omega, by decide, ?_⟩
 rw [show (List.take 4 (List.drop (Int.toNat 1 * 4) shapeCells))[0]? = some (.int .i64 0) from rfl]
 try simp only [go_sem, ↓reduceIte, Qa, Qb, Qc, Qd, Qe, Qf, reduceCtorEq, Ja, Jb, Jc, Jd, Je, Jf]
 exact ⟨⟨.int .i64 0, .bool true, 0⟩, rfl, rfl, rfl, rfl, rfl, rfl⟩
theorem rAdd (n : Int) (la : Option Addr) (lc : Nat) (R : RO) (hl : Ints R (.slice la 0 lc) []) (pv : Value) (hp : pv.oneCell' = true) : CallsR Tryz.prog 105 [.slice none 0 0, .agg ((dayNode n).cells (.slice la 0 lc)).toArray, pv] R fun R' r => RuleV (newR R R') r [dayNode n] := by
 simp only [dayNode, Nd.cells]
 refine callsT mix Tryz.func105 comp105 (by simp [Tryz.ntmps105]) ?_; simp only [go_sem, ↓reduceIte, Qa, Qb, Qc, Qd, Qe, Qf, reduceCtorEq, vc105, rs105]
 refine vcall (eCloneInts [] _ R hl (by simp)) ?_
 intro R1 u hle1 hu
 obtain ⟨ua, uc, rfl, _, _⟩ := hu.form
 try simp only [go_sem, ↓reduceIte, Qa, Qb, Qc, Qd, Qe, Qf, reduceCtorEq]
 refine vcall (rShapes R1) ?_
 rintro R2 r hle2 rfl
 try simp only [go_sem, ↓reduceIte, Qa, Qb, Qc, Qd, Qe, Qf, reduceCtorEq]
 refine ⟨by omega, by omega, by decide, ?_⟩
 rw [show (List.take 4 (List.drop (Int.toNat 1 * 4) shapeCells))[0]? = some (.int .i64 0) from rfl]
 try simp only [go_sem, ↓reduceIte, Qa, Qb, Qc, Qd, Qe, Qf, reduceCtorEq, Ja, Jb, Jc, Jd, Je, Jf]
 intro b cap R3 hle3 hrow hcap hfr
 obtain ⟨c, hc⟩ : ∃ c : List Value, c = (dayNode n).cells (.slice ua 0 uc) := ⟨_, rfl⟩
 have hrow' : RowIn (newR R R3) b ([c].flatten) := by
  have hrow2 : RowIn R3 b ([c].flatten) := by rw [hc]; simpa [dayNode, Nd.cells] using hrow
  exact fun i v hi => ⟨hrow2 i v hi, fun x y hx => hfr x y (hle2 _ _ (hle1 _ _ hx))⟩
 have h1 := RowIn.slK (k := 8) (cap := cap) hrow' (fun us hus => by simp only [List.mem_cons, List.not_mem_nil, or_false] at hus; rw [hus, hc]; rfl) (by omega) (by rw [hc]; simpa [dayNode, Nd.cells] using hcap)
 refine ⟨[c], h1, rfl, fun i c' x h2 h3 => ?_, by simp⟩
 cases i with
 | zero =>
  simp only [List.getElem?_cons_zero, Option.some.injEq] at h2 h3
  subst h2 h3
  exact ⟨.slice ua 0 uc, hc, ⟨ua, uc, rfl, Nat.zero_le _, by simp⟩, by simp⟩
 | succ i => simp at h2
end Go.Proofs.YtdgndfabdmecmaaGreat
namespace Go.Proofs.YtdgndfabdmecmaaGreat
set_option linter.unusedSectionVars false
variable [Go.Proofs.YtdgndfabdmecmaaGreat.Vc.Drew]
open Go.Proofs.YtdgndfabdmecmaaGreat.Vc
theorem hbWalk : hasBody Tryz.prog 103 = true := by kernel_rfl
set_option maxHeartbeats 4000000 in
theorem rPart (n : Int) (hn : 1 ≤ n ∧ n ≤ 1099511627776) (v : Value) (R : RO) (h : RuleV R v [dayNode n]) : CallsR Tryz.prog 70 [v, .int .i64 0] R fun R' r => ∃ u, r = .tuple #[u, .int .i64 0] ∧ RuleV R' u [dayNode n] := by
 have hw := rWell n hn v R h
 obtain ⟨cs, h1, h2, h3, _⟩ := h
 obtain ⟨a, cap, rfl, hc, hf⟩ := SlK.form h1
 simp only [List.length_cons, List.length_nil, Nat.zero_add] at h2
 obtain ⟨_, ad, had, hR⟩ := hf 0 (by omega)
 obtain ⟨lv, e, hl, _⟩ := h3 0 _ _ (List.getElem?_eq_getElem (by omega)) rfl
 rw [e] at hR
 rw [h2] at hc hw ⊢
 obtain ⟨la, lc, rfl, _, _⟩ := hl.form
 refine callsT mix Tryz.func70 comp70 (by simp [Tryz.ntmps70]) ?_; simp only [go_sem, ↓reduceIte, Qa, Qb, Qc, Qd, Qe, Qf, reduceCtorEq, vc70, rs70]
 refine vcall hw ?_
 rintro R1 r hle1 rfl
 try simp only [go_sem, ↓reduceIte, Qa, Qb, Qc, Qd, Qe, Qf, reduceCtorEq]
 have hR0 : R ad (.int .i64 1) := by
  have := hR 0 (.int .i64 1) rfl
  rwa [Nat.zero_mul, Addr.add_zero', Addr.add_zero'] at this
 refine ⟨fun _ => ⟨fun h => absurd h (by omega), fun _ => ⟨by omega, by omega, hbWalk, vhandT [3, 4, 0, 2] [.val (.int .i64 0), .loc 1 0, .loc 2 0, .loc 3 0] [.mp [] 0, .box [.mp 0], .box [.val (.slice a 1 cap)], .box [.fn 103 [.l 1 0, .l 2 0, .l 3 0]]] (rWalk n a cap R1 ⟨ad, had, hle1 _ _ hR0⟩) rfl rfl rfl ?_ (by simp) rfl rfl ?_⟩⟩, fun h => absurd h (by omega)⟩
 ·exact ⟨rfl, rfl, rfl, rfl, trivial⟩
 rintro R2 bs r hle2 ⟨⟨_, _, born⟩, rfl, rfl, rfl, rfl⟩ _
 try simp only [go_sem, ↓reduceIte, Qa, Qb, Qc, Qd, Qe, Qf, reduceCtorEq]
 rw [show (setG _ _ _ : List Blk) = [Blk.box [SV.val (Value.slice a 1 cap)], Blk.row 3 1 [Value.int IntKind.i64 0], Blk.box [SV.fn 103 [Cap.l 4 0, Cap.l 0 0, Cap.l 2 0]], Blk.mp [⟨.int .i64 0, .bool true, born⟩] 1, Blk.box [SV.mp 3]] from rfl]
 try simp only [go_sem, ↓reduceIte, Qa, Qb, Qc, Qd, Qe, Qf, reduceCtorEq, Ja, Jb, Jc, Jd, Je, Jf]
 refine vcLoop (Nat × Value) (fun x => [(35, .val (.int .i64 x.1)), (34, .val (.int .i64 1)), (33, .val (.slice a 1 cap)), (9, .loc 4 0), (7, .val x.2), (6, .sl 1 1)])
  (fun _ => [Blk.box [SV.val (Value.slice a 1 cap)], Blk.row 3 1 [Value.int IntKind.i64 0], Blk.box [SV.fn 103 [Cap.l 4 0, Cap.l 0 0, Cap.l 2 0]], Blk.mp [⟨.int .i64 0, .bool true, born⟩] 1, Blk.box [SV.mp 3]])
  (fun x R' => x.1 ≤ 1 ∧ (x.1 = 0 → x.2 = .slice none 0 0) ∧ (x.1 = 1 → RuleV R' x.2 [dayNode n])) (fun x => 1 - x.1) (0, .slice none 0 0) ?_ ?_ ?_ ?_
 ·(try simp only [go_sem, ↓reduceIte, Qa, Qb, Qc, Qd, Qe, Qf, reduceCtorEq]) <;> (repeat' (first | rfl | trivial | constructor | (intro h; exact absurd rfl h)))
 ·try simp only [go_sem, ↓reduceIte, Qa, Qb, Qc, Qd, Qe, Qf, reduceCtorEq]
  exact ⟨rfl, rfl, rfl⟩
 ·exact ⟨Nat.zero_le _, fun _ => rfl, fun h => absurd h (by decide)⟩
 rintro ⟨i, u⟩ env R3 hle3 hE ⟨hi, hi0, hi1⟩
 (simp only [go_sem] at hE; obtain ⟨e35, e34, e33, e9, e7, e6⟩ := hE; simp only [go_sem, ↓reduceIte, Qa, Qb, Qc, Qd, Qe, Qf, reduceCtorEq, e35, e34, e33, e9, e7, e6]; dsimp only at *)
 refine ⟨fun hlt => ?_, fun hge => ?_⟩
 ·obtain rfl : i = 0 := by omega
  obtain rfl := hi0 rfl
  refine ⟨by omega, vat ad had ?_⟩
  try simp only [go_sem, ↓reduceIte, Qa, Qb, Qc, Qd, Qe, Qf, reduceCtorEq]
  refine vloadn ((dayNode n).cells (.slice la 0 lc)) rfl (fun j u hj => hle3 _ _ (hle2 _ _ (hle1 _ _ (hR j u hj)))) ?_
  simp only [go_sem, ↓reduceIte, Qa, Qb, Qc, Qd, Qe, Qf, reduceCtorEq, dayNode, Nd.cells, List.length_nil, e35, e34, e33, e9, e7, e6]
  refine vmget _ _ (some (0, .bool true)) rfl rfl rfl ?_
  try simp only [go_sem, ↓reduceIte, Qa, Qb, Qc, Qd, Qe, Qf, reduceCtorEq, mres, e35, e34, e33, e9, e7, e6]
  refine vlend fun β κ R4 hL => ⟨_, rAdd n la lc R4 ⟨la, lc, rfl, Nat.zero_le _, by simp⟩ _ rfl, ?_⟩
  rintro R5 u R6 hle5 hu hle6 hnew
  have hu6 : RuleV R6 u [dayNode n] := hu.mono fun a' u' h' => hnew a' u' h'.1 h'.2
  obtain ⟨ua, un, uc, rfl⟩ := hu6.form
  obtain rfl := hu6.len
  try simp only [go_sem, ↓reduceIte, Qa, Qb, Qc, Qd, Qe, Qf, reduceCtorEq, e35, e34, e33, e9, e7, e6]
  exact ⟨_, W.in64 (by omega), by omega, _, W.in64 (by omega), (1, .slice ua 1 uc), by simp, ⟨⟨rfl, rfl⟩, rfl⟩, ⟨rfl, rfl, rfl⟩, Nat.le_refl _, fun h => absurd h Nat.one_ne_zero, fun _ => hu6⟩
 ·obtain rfl : i = 1 := by omega
  have hr := hi1 rfl
  exact ⟨_, rfl, hr⟩
end Go.Proofs.YtdgndfabdmecmaaGreat
namespace Go.Proofs.YtdgndfabdmecmaaGreat
set_option linter.unusedSectionVars false
variable [Go.Proofs.YtdgndfabdmecmaaGreat.Vc.Drew]
open Go.Proofs.YtdgndfabdmecmaaGreat.Vc
structure SeOK (s : Se) (n : Int) (ms : List Mv) : Prop where
 n : 1 ≤ n ∧ n ≤ 1099511627776
 mv : ∀ m ∈ ms, moveOK m = true
 asc : AscM ms
 len : ms.length ≤ 64
 minute : 0 ≤ s.minute ∧ s.minute ≤ 1439
 length : 1 ≤ s.length ∧ s.length ≤ 10080
 gap : 0 ≤ s.gap ∧ s.gap ≤ 2
 fold : 0 ≤ s.fold ∧ s.fold ≤ 2
 zone : 1 ≤ s.zone.size ∧ s.zone.size ≤ 32
theorem betw_t {a b c : Int} (h : a ≤ b ∧ b ≤ c) : betw a b c = true := by unfold betw; simp [h]
set_option maxHeartbeats 2000000 in
theorem sSound (s : Se) (n : Int) (ms : List Mv) (h : SeOK s n ms) (R : RO) (hr : RuleV R s.rule [dayNode n]) (hm : EncV Mv.cells 5 R s.moves ms) : CallsR Tryz.prog 33 [.agg s.cells.toArray] R fun _ r => r = .bool true := by
 obtain ⟨sr, sm, sl, sz, sg, sf, smv⟩ := s
 obtain ⟨hn, hmv, hasc, hml, hmin, hlen, hgap, hfold, hzn⟩ := h
 dsimp only at hr hm hmin hlen hgap hfold hzn ⊢
 obtain ⟨ma, mcap, rfl, hmc, hmf⟩ := hm.form
 obtain ⟨ra, rn, rc, rfl⟩ := hr.form
 obtain rfl := hr.len
 simp only [Se.cells]
 refine callsT mix Tryz.func33 comp33 (by simp [Tryz.ntmps33]) ?_; simp only [go_sem, ↓reduceIte, Qa, Qb, Qc, Qd, Qe, Qf, reduceCtorEq, vc33, rs33]
 refine vcall (rPart n hn _ R hr) ?_
 rintro R1 r hle1 ⟨u, rfl, hu⟩
 try simp only [go_sem, ↓reduceIte, Qa, Qb, Qc, Qd, Qe, Qf, reduceCtorEq, Ja, Jb, Jc, Jd, Je, Jf]
 refine vcall (sWithin sm 0 1439 R1) ?_
 rintro R2 r hle2 rfl
 rw [betw_t hmin]
 try simp only [go_sem, ↓reduceIte, Qa, Qb, Qc, Qd, Qe, Qf, reduceCtorEq, Ja, Jb, Jc, Jd, Je, Jf]
 refine vcall (sWithin sl 1 10080 R2) ?_
 rintro R3 r hle3 rfl
 rw [betw_t hlen]
 try simp only [go_sem, ↓reduceIte, Qa, Qb, Qc, Qd, Qe, Qf, reduceCtorEq, Ja, Jb, Jc, Jd, Je, Jf]
 refine vcall (sWithin sg 0 2 R3) ?_
 rintro R4 r hle4 rfl
 rw [betw_t hgap]
 try simp only [go_sem, ↓reduceIte, Qa, Qb, Qc, Qd, Qe, Qf, reduceCtorEq, Ja, Jb, Jc, Jd, Je, Jf]
 refine vcall (sWithin sf 0 2 R4) ?_
 rintro R5 r hle5 rfl
 rw [betw_t hfold]
 try simp only [go_sem, ↓reduceIte, Qa, Qb, Qc, Qd, Qe, Qf, reduceCtorEq, Ja, Jb, Jc, Jd, Je, Jf]
 refine vcall (sWithin sz.size 1 32 R5) ?_
 rintro R6 r hle6 rfl
 rw [betw_t (by omega)]
 try simp only [go_sem, ↓reduceIte, Qa, Qb, Qc, Qd, Qe, Qf, reduceCtorEq, Ja, Jb, Jc, Jd, Je, Jf]
 have hle : RO.le R R6 := RO.le_trans hle1 (RO.le_trans hle2 (RO.le_trans hle3 (RO.le_trans hle4 (RO.le_trans hle5 hle6))))
 refine ⟨fun h => absurd h (by omega), fun _ => ?_⟩
 refine vcLoop Nat (fun k => [(53, .val (.int .i64 k)), (52, .val (.int .i64 ms.length)), (51, .val (.slice ma ms.length mcap)), (1, .loc 0 0)]) (fun _ => [.box [.val (.slice ra 1 rc), .val (.int .i64 sm), .val (.int .i64 sl), .val (.string sz), .val (.int .i64 sg), .val (.int .i64 sf), .val (.slice ma ms.length mcap)]]) (fun k _ => k ≤ ms.length) (fun k => ms.length - k) 0 ?_ ?_ ?_ ?_
 ·(try simp only [go_sem, ↓reduceIte, Qa, Qb, Qc, Qd, Qe, Qf, reduceCtorEq]) <;> (repeat' (first | rfl | trivial | constructor | (intro h; exact absurd rfl h)))
 ·try simp only [go_sem, ↓reduceIte, Qa, Qb, Qc, Qd, Qe, Qf, reduceCtorEq]
 ·exact Nat.zero_le _
 rintro k env R7 hle7 hE hk
 (simp only [go_sem] at hE; obtain ⟨e53, e52, e51, e1⟩ := hE; simp only [go_sem, ↓reduceIte, Qa, Qb, Qc, Qd, Qe, Qf, reduceCtorEq, e53, e52, e51, e1]; dsimp only at *)
 refine fun hlt => ?_
 have hlt' : k < ms.length := by omega
 obtain ⟨ad, had, hR⟩ := hmf k hlt'
 refine ⟨by omega, vat ad had ?_⟩
 try simp only [go_sem, ↓reduceIte, Qa, Qb, Qc, Qd, Qe, Qf, reduceCtorEq]
 refine vloadn ms[k].cells rfl (fun j u hj => hle7 _ _ (hle _ _ (hR j u hj))) ?_
 simp only [go_sem, ↓reduceIte, Qa, Qb, Qc, Qd, Qe, Qf, reduceCtorEq, Mv.cells, e53, e52, e51, e1]
 have hM := sMoveOK ms[k] R7
 rw [hmv ms[k] (List.getElem_mem _)] at hM
 simp only [Mv.val, Mv.cells] at hM
 refine vcall hM ?_
 rintro R8 r hle8 rfl
 by_cases h0 : k = 0
 ·subst h0
  try simp only [go_sem, ↓reduceIte, Qa, Qb, Qc, Qd, Qe, Qf, reduceCtorEq, e53, e52, e51, e1]
  refine ⟨fun h => absurd h (by omega), fun _ => ?_⟩
  refine ⟨_, W.in64 (by omega), 1, by omega, rfl, by omega⟩
 ·have hgt : ((0 : Int) < k) := by omega
  try simp only [go_sem, ↓reduceIte, Qa, Qb, Qc, Qd, Qe, Qf, reduceCtorEq, e53, e52, e51, e1, hgt]
  refine ⟨_, W.in64 (by omega), by omega, by omega, ?_⟩
  rw [show ((k : Int) - 1).toNat = k - 1 by omega]
  obtain ⟨ad', had', hR'⟩ := hmf (k - 1) (by omega)
  refine vat ad' had' ?_
  try simp only [go_sem, ↓reduceIte, Qa, Qb, Qc, Qd, Qe, Qf, reduceCtorEq]
  refine vload (.int .i64 ms[k - 1].day) (by have := hle8 _ _ (hle7 _ _ (hle _ _ (hR' 0 _ rfl))); rwa [Addr.add_zero'] at this) ?_
  try simp only [go_sem, ↓reduceIte, Qa, Qb, Qc, Qd, Qe, Qf, reduceCtorEq, e53, e52, e51, e1, hgt]
  have hlt2 : ms[k - 1].day < ms[k].day := (List.pairwise_iff_getElem.1 hasc) (k - 1) k (by omega) hlt' (by omega)
  refine ⟨fun h => absurd h (by omega), fun _ => ?_⟩
  refine ⟨_, W.in64 (by omega), k + 1, by omega, by norm_cast, by omega⟩
theorem sOn (s : Se) (n : Int) (ms : List Mv) (z : Zv) (k : Ck) (hk : CkOK k) (hs : SeOK s n ms) (day : Int) (hday : 0 ≤ day ∧ day ≤ 1099511627776) (R : RO) (hr : RuleV R s.rule [dayNode n]) (hm : EncV Mv.cells 5 R s.moves ms) (hO : OpenC R z k) (hz : z.tn ≤ 512) :
  CallsR Tryz.prog 12 [.agg s.cells.toArray, .agg z.cells.toArray, .int .i64 day] R fun R' r => ∃ u, r = .tuple #[u, .int .i64 0] ∧ EncV Ins.cells 3 R' u (onC k ms s.minute s.length s.gap s.fold day) := by
 have h1 := sSound s n ms hs R hr hm
 have h3 := fun R' (hle : RO.le R R') => sOnI s ms z k hk day R' hr.one (hm.mono hle) hs.mv hs.asc hs.minute hs.length hs.gap hs.fold hday (hO.mono hle)
 have h2 := fun R' (hle : RO.le R R') => zValid z k R' (hO.mono hle) hz
 have hmo : s.moves.oneCell' = true := by obtain ⟨a, cap, e, _, _⟩ := hm.form; rw [e]; rfl
 obtain ⟨sr, sm, sl, sz, sg, sf, smv⟩ := s
 dsimp only at hr hm hmo
 simp only [Se.cells, Zv.cells] at h1 h2 h3 ⊢
 have hro := hr.one
 refine callsT mix Tryz.func12 comp12 (by simp [Tryz.ntmps12]) ?_; simp only [go_sem, ↓reduceIte, Qa, Qb, Qc, Qd, Qe, Qf, reduceCtorEq, vc12, rs12]
 refine vcall h1 ?_
 rintro R1 r hle1 rfl
 try simp only [go_sem, ↓reduceIte, Qa, Qb, Qc, Qd, Qe, Qf, reduceCtorEq, Ja, Jb, Jc, Jd, Je, Jf]
 refine vcall (h2 R1 hle1) ?_
 rintro R2 r hle2 rfl
 try simp only [go_sem, ↓reduceIte, Qa, Qb, Qc, Qd, Qe, Qf, reduceCtorEq, Ja, Jb, Jc, Jd, Je, Jf]
 refine vcall (sWithin day 0 1099511627776 R2) ?_
 rintro R3 r hle3 rfl
 rw [betw_t hday]
 try simp only [go_sem, ↓reduceIte, Qa, Qb, Qc, Qd, Qe, Qf, reduceCtorEq, Ja, Jb, Jc, Jd, Je, Jf]
 refine vcall (h3 R3 (RO.le_trans hle1 (RO.le_trans hle2 hle3))) ?_
 intro R4 r hle4 hr4
 try simp only [go_sem, ↓reduceIte, Qa, Qb, Qc, Qd, Qe, Qf, reduceCtorEq, Ja, Jb, Jc, Jd, Je, Jf]
 exact ⟨_, rfl, hr4⟩
end Go.Proofs.YtdgndfabdmecmaaGreat
namespace Go.Proofs.YtdgndfabdmecmaaGreat
set_option linter.unusedSectionVars false
variable [Go.Proofs.YtdgndfabdmecmaaGreat.Vc.Drew]
open Go.Proofs.YtdgndfabdmecmaaGreat.Vc
theorem tSame16 (xs ys : List Ins) (v u : Value) (R : RO) (h : EncV Ins.cells 3 R v xs) (k : EncV Ins.cells 3 R u ys) : CallsR Tryz.prog 13 [v, u] R fun _ r => r = .bool (decide (xs = ys)) := by
 have hxl := h.2
 obtain ⟨a, cap, rfl, hc, hf⟩ := h.form
 obtain ⟨b, cap', rfl, hc', hf'⟩ := k.form
 refine callsT mix Tryz.func13 comp13 (by simp [Tryz.ntmps13]) ?_; simp only [go_sem, ↓reduceIte, Qa, Qb, Qc, Qd, Qe, Qf, reduceCtorEq, vc13, rs13]
 refine ⟨fun hne => ?_, fun he => ?_⟩
 ·rw [decide_eq_false]; rintro rfl; exact hne (by omega)
 have he' : xs.length = ys.length := by omega
 refine vcLoop Nat (fun i => [(5, .val (.int .i64 i)), (0, .val (.slice a xs.length cap)), (1, .val (.slice b ys.length cap'))]) (fun _ => []) (fun i _ => i ≤ xs.length ∧ xs.take i = ys.take i) (fun i => xs.length - i) 0 ?_ rfl ?_ ?_
 ·(try simp only [go_sem, ↓reduceIte, Qa, Qb, Qc, Qd, Qe, Qf, reduceCtorEq]) <;> (repeat' (first | rfl | trivial | constructor | (intro h; exact absurd rfl h)))
 ·exact ⟨Nat.zero_le _, rfl⟩
 rintro i env R1 hle hE ⟨hi, hp⟩
 (simp only [go_sem] at hE; obtain ⟨e5, e0, e1⟩ := hE; simp only [go_sem, ↓reduceIte, Qa, Qb, Qc, Qd, Qe, Qf, reduceCtorEq, e5, e0, e1]; dsimp only at *)
 refine ⟨fun hlt => ⟨hlt, ?_⟩, fun hge => ?_⟩
 ·have hlt' : i < xs.length := by omega
  obtain ⟨ad, had, hR⟩ := hf i hlt'
  obtain ⟨ad', had', hR'⟩ := hf' i (by omega)
  obtain ⟨x, hxe⟩ : ∃ x, x = xs[i]'(by omega) := ⟨_, rfl⟩
  obtain ⟨y, hye⟩ : ∃ y, y = ys[i]'(by omega) := ⟨_, rfl⟩
  rw [← hxe] at hR
  rw [← hye] at hR'
  refine vat ad had ?_
  try simp only [go_sem, ↓reduceIte, Qa, Qb, Qc, Qd, Qe, Qf, reduceCtorEq]
  refine vloadn x.cells rfl (fun j u hj => hle _ _ (hR j u hj)) ?_
  simp only [go_sem, ↓reduceIte, Qa, Qb, Qc, Qd, Qe, Qf, reduceCtorEq, e5, e0, e1]
  refine ⟨by omega, vat ad' had' ?_⟩
  try simp only [go_sem, ↓reduceIte, Qa, Qb, Qc, Qd, Qe, Qf, reduceCtorEq]
  refine vloadn y.cells rfl (fun j u hj => hle _ _ (hR' j u hj)) ?_
  simp only [go_sem, ↓reduceIte, Qa, Qb, Qc, Qd, Qe, Qf, reduceCtorEq, Ins.cells, e5, e0, e1]
  have hxy : (x = y) = (x.day = y.day ∧ x.f = y.f ∧ x.t = y.t) := by
   obtain ⟨_, _, _⟩ := x
   obtain ⟨_, _, _⟩ := y
   simp
  refine ⟨fun hne => ?_, fun heq => ?_⟩
  ·rw [decide_eq_false]; rintro rfl
   have : x = y := by rw [hxe, hye]
   rw [hxy] at this
   simp_all
  ·refine ⟨_, W.in64 (by omega), i + 1, by omega, by constructor, by omega, ?_⟩
   rw [List.take_succ_eq_append_getElem (by omega : i < xs.length), List.take_succ_eq_append_getElem (by omega : i < ys.length), hp, ← hxe, ← hye, hxy.mpr (by simpa using heq)]
 ·obtain rfl : i = xs.length := by omega
  rw [List.take_length, he', List.take_length] at hp
  simp [hp]
end Go.Proofs.YtdgndfabdmecmaaGreat
namespace Go.Proofs.YtdgndfabdmecmaaGreat
set_option linter.unusedSectionVars false
variable [Go.Proofs.YtdgndfabdmecmaaGreat.Vc.Drew]
open Go.Proofs.YtdgndfabdmecmaaGreat.Vc
def I64 (n : Int) : Prop := -9223372036854775808 ≤ n ∧ n ≤ 9223372036854775807
instance (n : Int) : Decidable (I64 n) := by unfold I64; infer_instance
theorem nmod (a b : Int) (hb : 1 ≤ b) (hb2 : I64 b) (_ha : I64 a) (R : RO) :
  CallsR Tryz.prog 214 [.int .i64 a, .int .i64 b] R fun _ v => v = .int .i64 (a % b) := by
 refine callsT mix Tryz.func214 comp214 (by simp [Tryz.ntmps214]) ?_; simp only [go_sem, ↓reduceIte, Qa, Qb, Qc, Qd, Qe, Qf, reduceCtorEq, vc214, rs214]
 have h1 := tmod_fix a b hb
 have h2 := tmod_bd a b hb
 unfold I64 at *
 refine ⟨by omega, fun h => ⟨_, W.in64 (by omega), ?_⟩, fun h => ?_⟩
 ·rw [if_pos h] at h1; rw [h1]
 ·rw [if_neg h] at h1; rw [h1]
theorem nMod (a b : Int) (hb2 : I64 b) (ha : I64 a) (R : RO) :
  CallsR Tryz.prog 209 [.int .i64 a, .int .i64 b] R fun _ v => v = .tuple #[.int .i64 (if b < 1 then 0 else a % b), .int .i64 (if b < 1 then 1 else 0)] := by
 refine callsT mix Tryz.func209 comp209 (by simp [Tryz.ntmps209]) ?_; simp only [go_sem, ↓reduceIte, Qa, Qb, Qc, Qd, Qe, Qf, reduceCtorEq, vc209, rs209]
 refine ⟨fun h => by simp [h], fun h => vcall (nmod a b (by omega) hb2 ha R) ?_⟩
 rintro R' v hle rfl
 try simp only [go_sem, ↓reduceIte, Qa, Qb, Qc, Qd, Qe, Qf, reduceCtorEq]
 simp [h]
theorem nmag (a : Int) (ha : I64 a) (R : RO) :
  CallsR Tryz.prog 207 [.int .i64 a] R fun _ v => v = .int .u64 a.natAbs := by
 refine callsT mix Tryz.func207 comp207 (by simp [Tryz.ntmps207]) ?_; simp only [go_sem, ↓reduceIte, Qa, Qb, Qc, Qd, Qe, Qf, reduceCtorEq, vc207, rs207]
 unfold I64 at *
 refine ⟨fun h => ⟨_, W.mod64 _, _, W.mod64 _, ?_⟩, fun h => ⟨_, W.u64 (by omega), ?_⟩⟩
 ·congr 1; omega
 ·congr 1; omega
theorem nGcd (a b : Int) (ha : I64 a) (hb : I64 b) (R : RO) :
  CallsR Tryz.prog 196 [.int .i64 a, .int .i64 b] R fun _ v => v = .int .i64 (if 9223372036854775807 < Int.gcd a b then 0 else Int.gcd a b) := by
 refine callsT mix Tryz.func196 comp196 (by simp [Tryz.ntmps196]) ?_; simp only [go_sem, ↓reduceIte, Qa, Qb, Qc, Qd, Qe, Qf, reduceCtorEq, vc196, rs196]
 refine vcall (nmag a ha R) ?_
 rintro R1 v hle rfl
 try simp only [go_sem, ↓reduceIte, Qa, Qb, Qc, Qd, Qe, Qf, reduceCtorEq]
 refine vcall (nmag b hb R1) ?_
 rintro R2 v hle rfl
 try simp only [go_sem, ↓reduceIte, Qa, Qb, Qc, Qd, Qe, Qf, reduceCtorEq]
 unfold I64 at *
 refine vcLoop (Nat × Nat) (fun x => [(5, .val (.int .u64 x.1)), (6, .val (.int .u64 x.2))]) (fun _ => []) (fun x _ => Nat.gcd x.1 x.2 = Int.gcd a b ∧ x.1 ≤ 9223372036854775808 ∧ x.2 ≤ 9223372036854775808) (fun x => x.2) (a.natAbs, b.natAbs) ?_ rfl ?_ ?_
 ·simp only [go_sem, ↓reduceIte, Qa, Qb, Qc, Qd, Qe, Qf, reduceCtorEq]
 ·exact ⟨rfl, by omega, by omega⟩
 ·rintro ⟨x, y⟩ env R' hle hv ⟨hg, hx, hy⟩
  simp only [go_sem] at hv
  obtain ⟨h5, h6⟩ := hv
  simp only [go_sem, ↓reduceIte, Qa, Qb, Qc, Qd, Qe, Qf, reduceCtorEq, h5, h6]
  refine ⟨fun h => ?_, fun h => ?_⟩
  ·refine ⟨h, (y, x % y), Nat.mod_lt _ (by omega), ⟨rfl, ?_⟩, ?_, by omega, ?_⟩
   ·rw [tmod_nonneg' (by omega)]; rfl
   ·rw [← hg]; simp only; rw [Nat.gcd_comm y, ← Nat.gcd_rec, Nat.gcd_comm]
   ·have := Nat.mod_lt x (show 0 < y by omega); simp only; omega
  ·have hy0 : y = 0 := by omega
   subst hy0
   simp only [Nat.gcd_zero_right] at hg
   subst hg
   refine ⟨fun h => ?_, fun h => ⟨_, W.in64 (by omega), ?_⟩⟩
   ·rw [if_pos (by omega)]
   ·rw [if_neg (by omega)]
end Go.Proofs.YtdgndfabdmecmaaGreat
namespace Go.Proofs.YtdgndfabdmecmaaGreat
set_option linter.unusedSectionVars false
variable [Go.Proofs.YtdgndfabdmecmaaGreat.Vc.Drew]
open Go.Proofs.YtdgndfabdmecmaaGreat.Vc
theorem gcd_le_left {a : Int} (b : Int) (ha : 1 ≤ a) : 1 ≤ (Int.gcd a b : Int) ∧ (Int.gcd a b : Int) ≤ a := by
 have h1 : 0 < Int.gcd a b := Int.gcd_pos_of_ne_zero_left b (by omega)
 have h2 : (Int.gcd a b : Int) ∣ a := Int.gcd_dvd_left a b
 exact ⟨by omega, Int.le_of_dvd (by omega) h2⟩
theorem lcm_eq {a b : Int} (ha : 1 ≤ a) (hb : 1 ≤ b) : (Int.lcm a b : Int) = a / (Int.gcd a b : Int) * b := by
 have h1 := Int.gcd_mul_lcm a b
 have hg := gcd_le_left b ha
 have h2 : (Int.gcd a b : Int) ∣ a := Int.gcd_dvd_left a b
 have h3 : ((Int.gcd a b * Int.lcm a b : Nat) : Int) = a * b := by
  rw [h1]
  push_cast
  rw [Int.natAbs_of_nonneg (by omega), Int.natAbs_of_nonneg (by omega)]
 push_cast at h3
 obtain ⟨q, hq⟩ := h2
 have hq2 : a / (Int.gcd a b : Int) = q := by
  have : a / (Int.gcd a b : Int) = (Int.gcd a b * q) / (Int.gcd a b : Int) := by rw [← hq]
  rw [this]
  exact Int.mul_ediv_cancel_left _ (show (Int.gcd a b : Int) ≠ 0 by omega)
 rw [hq2]
 have h4 : (Int.gcd a b : Int) * Int.lcm a b = Int.gcd a b * (q * b) := by
  rw [h3, ← Int.mul_assoc, ← hq]
 exact Int.eq_of_mul_eq_mul_left (show (Int.gcd a b : Int) ≠ 0 by omega) h4
def lcmE (a b : Int) : Int := if a < 1 ∨ b < 1 then 1 else if 1099511627776 < (Int.lcm a b : Int) then 2 else 0
def lcmV (a b : Int) : Int := if lcmE a b = 0 then Int.lcm a b else 0
theorem nLcm (a b : Int) (ha : I64 a) (hb : I64 b) (R : RO) :
  CallsR Tryz.prog 184 [.int .i64 a, .int .i64 b] R fun _ v => v = .tuple #[.int .i64 (lcmV a b), .int .i64 (lcmE a b)] := by
 refine callsT mix Tryz.func184 comp184 (by simp [Tryz.ntmps184]) ?_; simp only [go_sem, ↓reduceIte, Qa, Qb, Qc, Qd, Qe, Qf, reduceCtorEq, vc184, rs184]
 refine ⟨fun ha1 => ⟨fun hb1 => by simp [lcmV, lcmE, hb1], fun hb1 => ?_⟩, fun ha1 => by simp [lcmV, lcmE, ha1]⟩
 have h1 := gcd_le_left (a := a) b (by omega)
 have h2 := lcm_eq (a := a) (b := b) (by omega) (by omega)
 unfold I64 at *
 refine vcall (nGcd a b ha hb R) ?_
 rintro R1 v hle rfl
 rw [if_neg (by omega)]
 try simp only [go_sem, ↓reduceIte, Qa, Qb, Qc, Qd, Qe, Qf, reduceCtorEq]
 rw [tdiv_nonneg' (by omega) (by omega), tdiv_nonneg' (by omega) (by omega)]
 have h3 := Int.ediv_nonneg (show 0 ≤ a by omega) (show 0 ≤ (Int.gcd a b : Int) by omega)
 have h4 := Int.ediv_le_self (a := a) (Int.gcd a b) (by omega)
 have h5 := Int.ediv_nonneg (show (0 : Int) ≤ 1099511627776 by omega) (show 0 ≤ b by omega)
 have h6 := Int.ediv_le_self (a := 1099511627776) b (by omega)
 have h7 : 1099511627776 / b < a / (Int.gcd a b : Int) ↔ 1099511627776 < (Int.lcm a b : Int) := by
  rw [h2, Int.ediv_lt_iff_lt_mul (by omega)]
 refine ⟨by omega, _, W.in64 (by omega), by omega, _, W.in64 (by omega), fun h => ?_, fun h => ?_⟩
 ·rw [h7] at h
  simp [lcmV, lcmE, ha1, hb1, h]
 ·rw [h7] at h
  rw [← h2]
  refine ⟨_, W.in64 (by omega), ?_⟩
  simp [lcmV, lcmE, ha1, hb1, h]
end Go.Proofs.YtdgndfabdmecmaaGreat
