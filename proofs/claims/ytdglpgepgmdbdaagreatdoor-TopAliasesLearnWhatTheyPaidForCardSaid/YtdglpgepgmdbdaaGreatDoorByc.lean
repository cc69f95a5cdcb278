/- Lemmas of our own, no statement of the seat; the last one of the claim's texts proves the law. -/
import Derived.Lib.SlicesCompact
import Derived.Sort.OwnSortedInts
import Derived.Shelf.SlSortCmp.WholeK
import Derived.Shelf.SlSortCmp.NoneTotal
import Derived.Shelf.SortM.Plain
import Derived.Shelf.SlicesG.CompactI
import Derived.Sort.Grow
import Derived.Deep.Draws
import Derived.Test.YtdglpgepgmdbdaaGreatDoorByb
import Derived.Test.YtdglpgepgmdbdaaGreatDoorVcH
import Derived.Test.YtdglpgepgmdbdaaGreatDoorRows
import Derived.Test.YtdglpgepgmdbdaaGreatDoorVcI
open Nat renaming reduceEqDiff → nQ1, reduceAdd → nQ2, reduceMul → nQ3, reduceLeDiff → nQ4, reduceLT → nQ5, reduceBNe → nQ6
open Int renaming reduceLE → iQ1, reduceLT → iQ2, reduceToNat → iQ3, cast_ofNat_Int → iQ4, reduceEq → iQ5, reduceNe → iQ6
namespace Go.Proofs.YtdglpgepgmdbdaaGreatDoor
set_option linter.unusedSimpArgs false
set_option linter.unusedVariables false
open Go.Proofs.YtdglpgepgmdbdaaGreatDoor.Vc
theorem mix : Tryz.prog.follows .mixedOrders = true := by kernel_rfl
end Go.Proofs.YtdglpgepgmdbdaaGreatDoor
namespace Go.Proofs.YtdglpgepgmdbdaaGreatDoor
set_option linter.unusedSimpArgs false
set_option linter.unusedVariables false
def Inc (l : List Int) : Prop := l.Pairwise (· < ·)
theorem Inc.ext : ∀ {a b : List Int}, Inc a → Inc b → (∀ x, x ∈ a ↔ x ∈ b) → a = b
 | [], [], _, _, _ => rfl
 | [], y :: ys, _, _, h => absurd ((h y).2 (by simp)) (by simp)
 | x :: xs, [], _, _, h => absurd ((h x).1 (by simp)) (by simp)
 | x :: xs, y :: ys, ha, hb, h => by
  have ha' := List.pairwise_cons.1 ha
  have hb' := List.pairwise_cons.1 hb
  have hxy : x = y := by
   rcases Int.lt_trichotomy x y with hlt | he | hlt
   ·rcases List.mem_cons.1 ((h x).1 (by simp)) with e | m
    ·exact e
    ·have := hb'.1 x m; omega
   ·exact he
   ·rcases List.mem_cons.1 ((h y).2 (by simp)) with e | m
    ·exact e.symm
    ·have := ha'.1 y m; omega
  subst hxy
  congr 1
  refine Inc.ext ha'.2 hb'.2 fun z => ⟨fun hz => ?_, fun hz => ?_⟩
  ·have hlt := ha'.1 z hz
   rcases List.mem_cons.1 ((h z).1 (by simp [hz])) with e | m
   ·omega
   ·exact m
  ·have hlt := hb'.1 z hz
   rcases List.mem_cons.1 ((h z).2 (by simp [hz])) with e | m
   ·omega
   ·exact m
theorem Inc.nodup {l : List Int} (h : Inc l) : l.Nodup := List.Pairwise.imp (fun hlt => by omega) h
theorem Inc.get_lt {l : List Int} (h : Inc l) {i j : Nat} (hij : i < j) (hj : j < l.length) : l[i] < l[j] := List.pairwise_iff_getElem.1 h i j (by omega) hj hij
end Go.Proofs.YtdglpgepgmdbdaaGreatDoor
namespace Go.Proofs.YtdglpgepgmdbdaaGreatDoor
set_option linter.unusedSectionVars false
variable [Go.Proofs.YtdglpgepgmdbdaaGreatDoor.Vc.Drew]
set_option linter.unusedSimpArgs false
set_option linter.unusedVariables false
open Go.Proofs.YtdglpgepgmdbdaaGreatDoor.Vc
theorem cutT {P : PG} {c : VCode} {s : St} {kn : St → Prop} {ke : Nat → St → Prop} {kr : St → Prop} {tn : Tok kn} {te : Tok ke} {tr : Tok kr} (Q : St → Prop) (h : CodeT P c s Q ke kr .mk .mk .mk) (hk : ∀ s', Q s' → kn s') : CodeT P c s kn ke kr tn te tr :=
 vcCode_mono c hk (fun _ _ h => h) (fun _ h => h) h
theorem cutS {P : PG} {l : List VStep} {s : St} {K : St → Prop} {t : Tok K} (Q : St → Prop) (h : StepsT P l s Q .mk) (hk : ∀ s', Q s' → K s') : StepsT P l s K t := vcSteps_mono l hk h
theorem cutR {P : PG} {a b : VCode} {s : St} {kn : St → Prop} {ke : Nat → St → Prop} {kr : St → Prop} {tn : Tok kn} {te : Tok ke} {tr : Tok kr} (s1 : St) (h : CodeT P a s (fun s' => s' = s1) ke kr .mk .mk .mk) (hk : CodeT P b s1 kn ke kr .mk .mk .mk) : CodeT P (.seq a b) s kn ke kr tn te tr :=
 vcCode_mono a (fun s' e => by subst e; exact hk) (fun _ _ h => h) (fun _ h => h) h
end Go.Proofs.YtdglpgepgmdbdaaGreatDoor
/- Plain lemmas of our own, no statement of the seat: contracts of the small functions of the packages budget and span, and of their references. -/
namespace Go.Proofs.YtdglpgepgmdbdaaGreatDoor
set_option linter.unusedSectionVars false
variable [Go.Proofs.YtdglpgepgmdbdaaGreatDoor.Vc.Drew]
set_option linter.unusedSimpArgs false
set_option linter.unusedVariables false
open Go.Proofs.YtdglpgepgmdbdaaGreatDoor.Vc
/-! ### Lists of things whose cells are known -/
def EncV {α : Type} (enc : α → List Value) (k : Nat) (R : RO) (v : Value) (xs : List α) : Prop := SlK R v k (xs.map enc) ∧ xs.length ≤ 1000000000
theorem EncV.mono {α : Type} {enc : α → List Value} {k : Nat} {R R' : RO} {v : Value} {xs : List α} (h : EncV enc k R v xs) (hle : RO.le R R') : EncV enc k R' v xs := ⟨h.1.mono hle, h.2⟩
theorem EncV.form {α : Type} {enc : α → List Value} {k : Nat} {R : RO} {v : Value} {xs : List α} (h : EncV enc k R v xs) : ∃ a cap, v = .slice a xs.length cap ∧ xs.length ≤ cap ∧ ∀ i (hi : i < xs.length), ∃ ad, a = some ad ∧ ∀ j u, (enc xs[i])[j]? = some u → R ((ad.add (i * k)).add j) u := by
 obtain ⟨⟨a, cap, rfl, hc, hf⟩, _⟩ := h
 rw [List.length_map] at hc
 refine ⟨a, cap, by rw [List.length_map], hc, fun i hi => ?_⟩
 obtain ⟨_, ad, ha, hR⟩ := hf i (enc xs[i]) (by rw [List.getElem?_map, List.getElem?_eq_getElem hi]; rfl)
 exact ⟨ad, ha, hR⟩
theorem EncV.nil {α : Type} (enc : α → List Value) (k : Nat) (R : RO) : EncV enc k R (.slice none 0 0) [] := ⟨⟨none, 0, rfl, Nat.le_refl _, by simp⟩, by simp⟩
theorem RowIn.enc {α : Type} {enc : α → List Value} {k : Nat} {R : RO} {b cap : Nat} {xs : List α} (hk : ∀ x, (enc x).length = k) (h0 : 0 < k) (h : RowIn R b (xs.map enc).flatten) (hc : (xs.map enc).flatten.length ≤ cap * k) (hl : xs.length ≤ 1000000000) : EncV enc k R (.slice (some ⟨b, 0, none⟩) xs.length cap) xs := by
 have h1 := RowIn.slK h (fun us hus => by obtain ⟨x, _, rfl⟩ := List.mem_map.1 hus; exact hk x) h0 hc
 rw [List.length_map] at h1
 exact ⟨h1, hl⟩
/-! ### Spans -/
structure Sp where
 f : Int
 t : Int
 deriving DecidableEq
def Sp.cells (s : Sp) : List Value := [.int .i64 s.f, .int .i64 s.t]
abbrev SpV := EncV Sp.cells 2
def farB (t : Int) : Bool := decide (t < -2251799813685248) || decide (2251799813685248 < t)
def rangedB (l : List Sp) : Bool := l.all fun s => !(farB s.f || farB s.t)
/-! ### Small functions -/
theorem bNaN (a : Int) (R : RO) : CallsR Tryz.prog 99 [.int .i64 a] R fun _ v => v = .bool false := by
 refine callsT mix Tryz.func99 comp99 (by simp [Tryz.ntmps99]) ?_; simp only [go_sem, ↓reduceIte, nQ1, nQ2, nQ3, nQ4, nQ5, nQ6, reduceCtorEq, vc99, rs99]
def cmpI (a b : Int) : Int := if a < b then -1 else if b < a then 1 else 0
theorem bCompare (a b : Int) (R : RO) : CallsR Tryz.prog 75 [.int .i64 a, .int .i64 b] R fun _ v => v = .int .i64 (cmpI a b) := by
 refine callsT mix Tryz.func75 comp75 (by simp [Tryz.ntmps75]) ?_; simp only [go_sem, ↓reduceIte, nQ1, nQ2, nQ3, nQ4, nQ5, nQ6, reduceCtorEq, vc75, rs75]
 refine vcall (bNaN a R) ?_
 rintro R1 v h1 rfl
 try simp only [go_sem, ↓reduceIte, nQ1, nQ2, nQ3, nQ4, nQ5, nQ6, reduceCtorEq]
 refine vcall (bNaN b R1) ?_
 rintro R2 v h2 rfl
 try simp only [go_sem, ↓reduceIte, nQ1, nQ2, nQ3, nQ4, nQ5, nQ6, reduceCtorEq]
 unfold cmpI
 refine ⟨fun h => by simp [h], fun h => ⟨fun h' => by simp [h, h'], fun h' => by simp [h, h']⟩⟩
theorem bFar (t : Int) (R : RO) : CallsR Tryz.prog 112 [.int .i64 t] R fun _ v => v = .bool (farB t) := by
 refine callsT mix Tryz.func112 comp112 (by simp [Tryz.ntmps112]) ?_; simp only [go_sem, ↓reduceIte, nQ1, nQ2, nQ3, nQ4, nQ5, nQ6, reduceCtorEq, vc112, rs112]
 unfold farB
 refine ⟨fun h => by simp [h], fun h => by simp [h]⟩
def personB (p : Int) : Bool := decide (0 ≤ p) && decide (p < 512)
theorem bPerson (p : Int) (R : RO) : CallsR Tryz.prog 33 [.int .i64 p] R fun _ v => v = .bool (personB p) := by
 refine callsT mix Tryz.func33 comp33 (by simp [Tryz.ntmps33]) ?_; simp only [go_sem, ↓reduceIte, nQ1, nQ2, nQ3, nQ4, nQ5, nQ6, reduceCtorEq, vc33, rs33]
 unfold personB
 refine ⟨fun h => by simp [h], fun h => by simp [h]⟩
def grainB (g : Int) : Bool := decide (1 ≤ g) && decide (g ≤ 4)
theorem bGrain (p : Int) (R : RO) : CallsR Tryz.prog 34 [.int .i64 p] R fun _ v => v = .bool (grainB p) := by
 refine callsT mix Tryz.func34 comp34 (by simp [Tryz.ntmps34]) ?_; simp only [go_sem, ↓reduceIte, nQ1, nQ2, nQ3, nQ4, nQ5, nQ6, reduceCtorEq, vc34, rs34]
 unfold grainB
 refine ⟨fun h => by simp [h], fun h => by simp [h]⟩
def sizeI (g : Int) : Int := if g = 1 then 1440 else if g = 2 ∨ g = 3 then 30 else 1
theorem rSize (g : Int) (R : RO) : CallsR Tryz.prog 15 [.int .i64 g] R fun _ v => v = .int .i64 (sizeI g) := by
 refine callsT mix Tryz.func15 comp15 (by simp [Tryz.ntmps15]) ?_; simp only [go_sem, ↓reduceIte, nQ1, nQ2, nQ3, nQ4, nQ5, nQ6, reduceCtorEq, vc15, rs15]
 unfold sizeI
 refine ⟨fun h => by simp [h], fun h => ⟨fun h2 => by simp [h2], fun h2 => ⟨fun h3 => by simp [h3], fun h3 => by simp [h, h2, h3]⟩⟩⟩
def alignedB (s : Sp) (n : Int) : Bool := decide (s.f % n = 0) && decide (s.t % n = 0)
theorem tmod0 {a n : Int} (hn : 0 < n) : a.tmod n = 0 ↔ a % n = 0 := by
 constructor
 ·intro h; exact Int.emod_eq_zero_of_dvd (Int.dvd_of_tmod_eq_zero h)
 ·intro h; exact Int.tmod_eq_zero_of_dvd (Int.dvd_of_emod_eq_zero h)
theorem bAligned (s : Sp) (n : Int) (hn : 0 < n) (R : RO) : CallsR Tryz.prog 35 [.agg s.cells.toArray, .int .i64 n] R fun _ v => v = .bool (alignedB s n) := by
 simp only [Sp.cells]
 refine callsT mix Tryz.func35 comp35 (by simp [Tryz.ntmps35]) ?_; simp only [go_sem, ↓reduceIte, nQ1, nQ2, nQ3, nQ4, nQ5, nQ6, reduceCtorEq, vc35, rs35]
 unfold alignedB
 have h1 := tmod0 (a := s.f) hn
 have h2 := tmod0 (a := s.t) hn
 refine ⟨by omega, fun h => ⟨by omega, ?_⟩, fun h => ?_⟩
 ·rw [decide_eq_true (h1.1 h), Bool.true_and]; congr 1; rw [decide_eq_decide]; exact h2
 ·rw [decide_eq_false (fun h3 => h (h1.2 h3))]; rfl
def floorI (a n : Int) : Int := a - a % n
theorem bFloor (a n : Int) (hn : 0 < n) (ha : -4503599627370496 ≤ a ∧ a ≤ 4503599627370496) (hn2 : n ≤ 1440) (R : RO) : CallsR Tryz.prog 41 [.int .i64 a, .int .i64 n] R fun _ v => v = .int .i64 (floorI a n) := by
 refine callsT mix Tryz.func41 comp41 (by simp [Tryz.ntmps41]) ?_; simp only [go_sem, ↓reduceIte, nQ1, nQ2, nQ3, nQ4, nQ5, nQ6, reduceCtorEq, vc41, rs41]
 unfold floorI
 have h1 := Int.tmod_lt_of_pos a hn
 have h2 : a.tmod n = a % n ∨ (a.tmod n < 0 ∧ a.tmod n + n = a % n) := by
  rcases Int.le_total 0 a with h | h
  ·exact .inl (tmod_nonneg' h)
  ·by_cases h0 : a % n = 0
   ·exact .inl (by rw [h0]; exact (tmod0 hn).2 h0)
   ·right
    have h3 : a.tmod n = a % n - n := by
     rw [Int.tmod_eq_emod]
     rw [if_neg (by
      intro hc
      rcases hc with hc | hc
      ·exact h0 (by rw [show a = 0 by omega]; exact Int.zero_emod n)
      ·exact h0 (Int.emod_eq_zero_of_dvd hc))]
     omega
    have := Int.emod_lt_of_pos a hn
    omega
 have h3 := Int.emod_nonneg a (show n ≠ 0 by omega)
 have h4 := Int.emod_lt_of_pos a hn
 refine ⟨by omega, fun h => ⟨_, W.in64 (by omega), _, W.in64 (by omega), ?_⟩, fun h => ⟨_, W.in64 (by omega), ?_⟩⟩
 ·congr 1; omega
 ·congr 1; omega
theorem bRanged1 (s : Sp) (R : RO) : CallsR Tryz.prog 111 [.agg s.cells.toArray] R fun _ v => v = .bool (farB s.f || farB s.t) := by
 simp only [Sp.cells]
 refine callsT mix Tryz.func111 comp111 (by simp [Tryz.ntmps111]) ?_; simp only [go_sem, ↓reduceIte, nQ1, nQ2, nQ3, nQ4, nQ5, nQ6, reduceCtorEq, vc111, rs111]
 refine vcall (bFar s.f R) ?_
 rintro R1 v h1 rfl
 try simp only [go_sem, ↓reduceIte, nQ1, nQ2, nQ3, nQ4, nQ5, nQ6, reduceCtorEq]
 refine ⟨fun h => ?_, fun h => by simp [h]⟩
 refine vcall (bFar s.t R1) ?_
 rintro R2 v h2 rfl
 try simp only [go_sem, ↓reduceIte, nQ1, nQ2, nQ3, nQ4, nQ5, nQ6, reduceCtorEq]
 simp [h]
/-! ### slices.IndexFunc, ContainsFunc at spans -/
theorem bIndexFunc (f : FuncId) (caps : List Value) (hb : hasBody Tryz.prog f = true) (p : Sp → Bool) (xs : List Sp) (v : Value) (R : RO) (h : SpV R v xs)
  (hf : ∀ (s : Sp) (R' : RO), RO.le R R' → CallsR Tryz.prog f ([.agg s.cells.toArray] ++ caps) R' fun _ u => u = .bool (p s)) : CallsR Tryz.prog 87 [v, .func (.func f) #[] caps.toArray] R fun _ u => ∃ k : Int, u = .int .i64 k ∧ (0 ≤ k ↔ xs.any p = true) := by
 have hxl := h.2
 obtain ⟨a, cap, rfl, hc, hg⟩ := h.form
 refine callsT mix Tryz.func87 comp87 (by simp [Tryz.ntmps87]) ?_; simp only [go_sem, ↓reduceIte, nQ1, nQ2, nQ3, nQ4, nQ5, nQ6, reduceCtorEq, vc87, rs87]
 refine vcLoop Nat (fun i => [(8, .val (.int .i64 i)), (7, .val (.int .i64 xs.length)), (0, .val (.slice a xs.length cap)), (1, .val (.func (.func f) #[] caps.toArray))]) (fun _ => []) (fun i _ => i ≤ xs.length ∧ ∀ j (hj : j < xs.length), j < i → p xs[j] = false) (fun i => xs.length - i) 0 ?_ ?_ ?_ ?_
 ·(try simp only [go_sem, ↓reduceIte, nQ1, nQ2, nQ3, nQ4, nQ5, nQ6, reduceCtorEq]) <;> (repeat' (first | rfl | trivial | constructor | (intro h; exact absurd rfl h)))
 ·try simp only [go_sem, ↓reduceIte, nQ1, nQ2, nQ3, nQ4, nQ5, nQ6, reduceCtorEq]
 ·exact ⟨Nat.zero_le _, fun j _ hj => absurd hj (by omega)⟩
 rintro i env R1 hle1 hE ⟨hi, hno⟩
 (simp only [go_sem] at hE; obtain ⟨e8, e7, e0, e1⟩ := hE; simp only [go_sem, ↓reduceIte, nQ1, nQ2, nQ3, nQ4, nQ5, nQ6, reduceCtorEq, e8, e7, e0, e1]; dsimp only at *)
 refine ⟨fun hlt => ?_, fun hge => ?_⟩
 ·have hlt' : i < xs.length := by omega
  obtain ⟨ad, had, hR⟩ := hg i hlt'
  refine ⟨by omega, vat ad had ?_⟩
  try simp only [go_sem, ↓reduceIte, nQ1, nQ2, nQ3, nQ4, nQ5, nQ6, reduceCtorEq]
  refine vloadn (xs[i]).cells rfl (fun j u hj => hle1 _ _ (hR j u hj)) ?_
  simp only [go_sem, ↓reduceIte, nQ1, nQ2, nQ3, nQ4, nQ5, nQ6, reduceCtorEq, e8, e7, e0, e1]
  refine ⟨hb, vcall (hf xs[i] R1 hle1) ?_⟩
  rintro R2 v hle2 rfl
  simp only [go_sem, ↓reduceIte, nQ1, nQ2, nQ3, nQ4, nQ5, nQ6, reduceCtorEq, e8, e7, e0, e1]
  refine ⟨fun hp => ⟨_, rfl, fun _ => List.any_eq_true.2 ⟨xs[i], List.getElem_mem hlt', hp⟩, fun _ => by omega⟩, fun hp => ?_⟩
  refine ⟨_, W.in64 (by omega), i + 1, by omega, ?_, by omega, fun j hj hji => ?_⟩
  ·try simp only [go_sem, ↓reduceIte, nQ1, nQ2, nQ3, nQ4, nQ5, nQ6, reduceCtorEq]
   rfl
  ·by_cases h : j = i
   ·subst h; exact hp
   ·exact hno j hj (by omega)
 ·refine ⟨_, rfl, fun h => absurd h (by decide), fun h => ?_⟩
  obtain ⟨x, hx, hp⟩ := List.any_eq_true.1 h
  obtain ⟨j, hj, rfl⟩ := List.mem_iff_getElem.1 hx
  rw [hno j hj (by omega)] at hp
  cases hp
end Go.Proofs.YtdglpgepgmdbdaaGreatDoor
/- Plain lemmas of our own, no statement of the seat: sets of instants as normal lists of spans. -/
namespace Go.Proofs.YtdglpgepgmdbdaaGreatDoor
set_option linter.unusedSectionVars false
variable [Go.Proofs.YtdglpgepgmdbdaaGreatDoor.Vc.Drew]
set_option linter.unusedSimpArgs false
set_option linter.unusedVariables false
open Go.Proofs.YtdglpgepgmdbdaaGreatDoor.Vc
/-! ### Normal lists: plain -/
def memS (l : List Sp) (t : Int) : Bool := l.any fun s => decide (s.f ≤ t) && decide (t < s.t)
structure Normal (l : List Sp) : Prop where
 pos : ∀ s ∈ l, s.f < s.t
 ord : l.Pairwise fun a b => a.t < b.f
theorem memS_iff {l : List Sp} {t : Int} : memS l t = true ↔ ∃ s ∈ l, s.f ≤ t ∧ t < s.t := by
 unfold memS
 rw [List.any_eq_true]
 simp only [Bool.and_eq_true, decide_eq_true_eq]
theorem memS_app (a b : List Sp) (t : Int) : memS (a ++ b) t = (memS a t || memS b t) := by unfold memS; rw [List.any_append]
theorem memS_cons (s : Sp) (l : List Sp) (t : Int) : memS (s :: l) t = ((decide (s.f ≤ t) && decide (t < s.t)) || memS l t) := rfl
theorem memS_nil (t : Int) : memS [] t = false := rfl
theorem Normal.nil : Normal [] := ⟨by simp, List.Pairwise.nil⟩
theorem Normal.tail {s : Sp} {l : List Sp} (h : Normal (s :: l)) : Normal l := ⟨fun x hx => h.pos x (by simp [hx]), (List.pairwise_cons.1 h.ord).2⟩
theorem Normal.ext : ∀ {a b : List Sp}, Normal a → Normal b → (∀ t, memS a t = memS b t) → a = b
 | [], [], _, _, _ => rfl
 | [], y :: b, _, hb, h => by
  have h1 := h y.f
  rw [memS_nil, memS_cons, decide_eq_true (Int.le_refl _), decide_eq_true (hb.pos y (by simp))] at h1
  simp at h1
 | x :: a, [], ha, _, h => by
  have h1 := h x.f
  rw [memS_nil, memS_cons, decide_eq_true (Int.le_refl _), decide_eq_true (ha.pos x (by simp))] at h1
  simp at h1
 | x :: a, y :: b, ha, hb, h => by
  have hx := ha.pos x (by simp)
  have hy := hb.pos y (by simp)
  have oa := (List.pairwise_cons.1 ha.ord).1
  have ob := (List.pairwise_cons.1 hb.ord).1
  have h1 : ∃ s ∈ y :: b, s.f ≤ x.f ∧ x.f < s.t := memS_iff.1 (by rw [← h]; exact memS_iff.2 ⟨x, by simp, Int.le_refl _, hx⟩)
  have h2 : ∃ s ∈ x :: a, s.f ≤ y.f ∧ y.f < s.t := memS_iff.1 (by rw [h]; exact memS_iff.2 ⟨y, by simp, Int.le_refl _, hy⟩)
  have hyx : y.f ≤ x.f := by
   obtain ⟨s, hs, h3, _⟩ := h1
   rcases List.mem_cons.1 hs with rfl | hs
   ·exact h3
   ·have := ob s hs; omega
  have hxy : x.f ≤ y.f := by
   obtain ⟨s, hs, h3, _⟩ := h2
   rcases List.mem_cons.1 hs with rfl | hs
   ·exact h3
   ·have := oa s hs; omega
  have hf : x.f = y.f := by omega
  have ht : x.t = y.t := by
   rcases Int.lt_trichotomy x.t y.t with h3 | h3 | h3
   ·exfalso
    have h4 : memS (x :: a) x.t = true := by rw [h]; exact memS_iff.2 ⟨y, by simp, by omega, h3⟩
    obtain ⟨s, hs, h5, h6⟩ := memS_iff.1 h4
    rcases List.mem_cons.1 hs with rfl | hs
    ·omega
    ·have := oa s hs; omega
   ·exact h3
   ·exfalso
    have h4 : memS (y :: b) y.t = true := by rw [← h]; exact memS_iff.2 ⟨x, by simp, by omega, h3⟩
    obtain ⟨s, hs, h5, h6⟩ := memS_iff.1 h4
    rcases List.mem_cons.1 hs with rfl | hs
    ·omega
    ·have := ob s hs; omega
  have hxy' : x = y := by cases x; cases y; simp only at hf ht; subst hf ht; rfl
  subst hxy'
  have hrest : ∀ t, memS a t = memS b t := fun t => by
   have h3 := h t
   rw [memS_cons, memS_cons] at h3
   by_cases hin : t ≤ x.t
   ·have ea : memS a t = false := by
     cases hm : memS a t with
     | false => rfl
     | true => obtain ⟨s, hs, h5, _⟩ := memS_iff.1 hm; have := oa s hs; omega
    have eb : memS b t = false := by
     cases hm : memS b t with
     | false => rfl
     | true => obtain ⟨s, hs, h5, _⟩ := memS_iff.1 hm; have := ob s hs; omega
    rw [ea, eb]
   ·rw [decide_eq_false (show ¬ t < x.t by omega), Bool.and_false, Bool.false_or, Bool.false_or] at h3
    exact h3
  rw [Normal.ext ha.tail hb.tail hrest]
theorem Normal.snoc {l : List Sp} {s : Sp} (h : Normal l) (hs : s.f < s.t) (hb : ∀ x ∈ l, x.t < s.f) : Normal (l ++ [s]) :=
  ⟨fun x hx => by
    rcases List.mem_append.1 hx with hx | hx
    · exact h.pos x hx
    · simp only [List.mem_cons, List.not_mem_nil, or_false] at hx; subst hx; exact hs,
   List.pairwise_append.2 ⟨h.ord, List.pairwise_singleton _ _, fun x hx y hy => by simp only [List.mem_cons, List.not_mem_nil, or_false] at hy; subst hy; exact hb x hx⟩⟩
theorem Normal.last {l : List Sp} {s : Sp} (h : Normal (l ++ [s])) : Normal l ∧ s.f < s.t ∧ ∀ x ∈ l, x.t < s.f :=
 ⟨⟨fun x hx => h.pos x (List.mem_append.2 (.inl hx)), (List.pairwise_append.1 h.ord).1⟩, h.pos s (by simp), fun x hx => (List.pairwise_append.1 h.ord).2.2 x hx s (by simp)⟩
instance (l : List Sp) : Decidable (Normal l) := decidable_of_iff ((∀ s ∈ l, s.f < s.t) ∧ l.Pairwise fun a b => a.t < b.f) ⟨fun h => ⟨h.1, h.2⟩, fun h => ⟨h.pos, h.ord⟩⟩
theorem normal_take {l : List Sp} {i : Nat} (hi : i < l.length) (h : Normal (l.take i)) (h1 : l[i].f < l[i].t) (h2 : 0 < i → (l[i - 1]'(by omega)).t < l[i].f) : Normal (l.take (i + 1)) := by
 rw [List.take_succ_eq_append_getElem hi]
 refine h.snoc h1 fun x hx => ?_
 obtain ⟨j, hj, rfl⟩ := List.mem_take_iff_getElem.1 hx
 by_cases hji : j = i - 1
 ·subst hji; exact h2 (by omega)
 ·have h3 := List.pairwise_iff_getElem.1 h.ord j (i - 1) (by simp; omega) (by simp; omega) (by omega)
  rw [List.getElem_take, List.getElem_take] at h3
  have h4 := h.pos (l[i - 1]'(by omega)) (List.mem_take_iff_getElem.2 ⟨i - 1, by omega, rfl⟩)
  have := h2 (by omega)
  omega
def validS (l : List Sp) : Bool := decide (Normal l) && rangedB l
/-! ### Valid, in range -/
theorem bRanged (l : List Sp) (v : Value) (R : RO) (h : SpV R v l) : CallsR Tryz.prog 86 [v] R fun _ r => r = .bool (rangedB l) := by
 have hI := bIndexFunc 111 [] (by kernel_rfl) (fun s => farB s.f || farB s.t) l
 obtain ⟨a, cap, rfl, hc, hg⟩ := h.form
 have hC : ∀ R', RO.le R R' → CallsR Tryz.prog 66 [.slice a l.length cap, .func (.func 111) #[] #[]] R' fun _ r => r = .bool (l.any fun s => farB s.f || farB s.t) := fun R' hle => by
  refine callsT mix Tryz.func66 comp66 (by simp [Tryz.ntmps66]) ?_; simp only [go_sem, ↓reduceIte, nQ1, nQ2, nQ3, nQ4, nQ5, nQ6, reduceCtorEq, vc66, rs66]
  refine vcall (hI _ R' (h.mono hle) fun s R'' _ => bRanged1 s R'') ?_
  rintro R1 u h1 ⟨k, rfl, hk⟩
  try simp only [go_sem, ↓reduceIte, nQ1, nQ2, nQ3, nQ4, nQ5, nQ6, reduceCtorEq]
  congr 1
  rw [Bool.eq_iff_iff, decide_eq_true_eq]
  exact hk
 refine callsT mix Tryz.func86 comp86 (by simp [Tryz.ntmps86]) ?_; simp only [go_sem, ↓reduceIte, nQ1, nQ2, nQ3, nQ4, nQ5, nQ6, reduceCtorEq, vc86, rs86]
 refine vcall (hC R (RO.le_refl _)) ?_
 rintro R1 u h1 rfl
 try simp only [go_sem, ↓reduceIte, nQ1, nQ2, nQ3, nQ4, nQ5, nQ6, reduceCtorEq]
 unfold rangedB
 congr 1
 rw [List.any_eq_not_all_not]; simp
end Go.Proofs.YtdglpgepgmdbdaaGreatDoor
/- Plain lemmas of our own, no statement of the seat: contracts of Valid, InRange, Has, Same at lists of spans. -/
namespace Go.Proofs.YtdglpgepgmdbdaaGreatDoor
set_option linter.unusedSectionVars false
variable [Go.Proofs.YtdglpgepgmdbdaaGreatDoor.Vc.Drew]
set_option linter.unusedSimpArgs false
set_option linter.unusedVariables false
open Go.Proofs.YtdglpgepgmdbdaaGreatDoor.Vc
theorem bValidS (l : List Sp) (v : Value) (R : RO) (h : SpV R v l) : CallsR Tryz.prog 65 [v] R fun _ r => r = .bool (validS l) := by
 have hRg := fun R' hle => bRanged l v R' (EncV.mono (R' := R') h hle)
 have hxl := h.2
 obtain ⟨a, cap, rfl, hc, hg⟩ := h.form
 refine callsT mix Tryz.func65 comp65 (by simp [Tryz.ntmps65]) ?_; simp only [go_sem, ↓reduceIte, nQ1, nQ2, nQ3, nQ4, nQ5, nQ6, reduceCtorEq, vc65, rs65]
 have hbad : ¬ Normal l → Value.bool false = Value.bool (validS l) := fun hn => by
  unfold validS; rw [decide_eq_false hn]; rfl
 refine vcLoop Nat (fun i => [(7, .val (.int .i64 i)), (6, .val (.int .i64 l.length)), (5, .val (.slice a l.length cap)), (0, .val (.slice a l.length cap))]) (fun _ => []) (fun i _ => i ≤ l.length ∧ Normal (l.take i)) (fun i => l.length - i) 0 ?_ ?_ ?_ ?_
 ·(try simp only [go_sem, ↓reduceIte, nQ1, nQ2, nQ3, nQ4, nQ5, nQ6, reduceCtorEq]) <;> (repeat' (first | rfl | trivial | constructor | (intro h; exact absurd rfl h)))
 ·try simp only [go_sem, ↓reduceIte, nQ1, nQ2, nQ3, nQ4, nQ5, nQ6, reduceCtorEq]
 ·exact ⟨Nat.zero_le _, Normal.nil⟩
 rintro i env R1 hle1 hE ⟨hi, hn⟩
 (simp only [go_sem] at hE; obtain ⟨e7, e6, e5, e0⟩ := hE; simp only [go_sem, ↓reduceIte, nQ1, nQ2, nQ3, nQ4, nQ5, nQ6, reduceCtorEq, e7, e6, e5, e0]; dsimp only at *)
 refine ⟨fun hlt => ?_, fun hge => ?_⟩
 ·have hlt' : i < l.length := by omega
  obtain ⟨ad, had, hR⟩ := hg i hlt'
  refine ⟨by omega, vat ad had ?_⟩
  try simp only [go_sem, ↓reduceIte, nQ1, nQ2, nQ3, nQ4, nQ5, nQ6, reduceCtorEq]
  refine vloadn (l[i]).cells rfl (fun j u hj => hle1 _ _ (hR j u hj)) ?_
  simp only [go_sem, ↓reduceIte, nQ1, nQ2, nQ3, nQ4, nQ5, nQ6, reduceCtorEq, Sp.cells, e7, e6, e5, e0]
  refine ⟨fun h1 => ⟨fun h2 => ?_, fun h2 => ?_⟩, fun h1 => hbad fun hN => ?_⟩
  ·obtain ⟨ad', had', hR'⟩ := hg (i - 1) (by omega)
   refine ⟨_, W.in64 (by omega), by omega, by omega, ?_⟩
   rw [show ((i : Int) - 1).toNat = i - 1 by omega]
   refine vat ad' had' ?_
   try simp only [go_sem, ↓reduceIte, nQ1, nQ2, nQ3, nQ4, nQ5, nQ6, reduceCtorEq]
   refine vload (.int .i64 (l[i - 1]).t) (hle1 _ _ (hR' 1 _ rfl)) ?_
   simp only [go_sem, ↓reduceIte, nQ1, nQ2, nQ3, nQ4, nQ5, nQ6, reduceCtorEq, e7, e6, e5, e0]
   refine ⟨fun h3 => hbad fun hN => ?_, fun h3 => ?_⟩
   ·have := List.pairwise_iff_getElem.1 hN.ord (i - 1) i (by omega) hlt' (by omega); omega
   ·refine ⟨_, W.in64 (by omega), i + 1, by omega, ?_, by omega, normal_take hlt' hn (by omega) (fun _ => by omega)⟩
    try simp only [go_sem, ↓reduceIte, nQ1, nQ2, nQ3, nQ4, nQ5, nQ6, reduceCtorEq]
    rfl
  ·refine ⟨_, W.in64 (by omega), i + 1, by omega, ?_, by omega, normal_take hlt' hn (by omega) (fun _ => by omega)⟩
   try simp only [go_sem, ↓reduceIte, nQ1, nQ2, nQ3, nQ4, nQ5, nQ6, reduceCtorEq]
   rfl
  ·have := hN.pos l[i] (List.getElem_mem hlt'); omega
 ·obtain rfl : i = l.length := by omega
  rw [List.take_length] at hn
  refine vcall (hRg R1 hle1) ?_
  rintro R2 r hle2 rfl
  simp only [go_sem, ↓reduceIte, nQ1, nQ2, nQ3, nQ4, nQ5, nQ6, reduceCtorEq, e7, e6, e5, e0]
  unfold validS
  rw [decide_eq_true hn, Bool.true_and]
end Go.Proofs.YtdglpgepgmdbdaaGreatDoor
/- Plain lemmas of our own, no statement of the seat: insertion into rising lists; the reference insert, in. -/
namespace Go.Proofs.YtdglpgepgmdbdaaGreatDoor
set_option linter.unusedSectionVars false
variable [Go.Proofs.YtdglpgepgmdbdaaGreatDoor.Vc.Drew]
set_option linter.unusedSimpArgs false
set_option linter.unusedVariables false
open Go.Proofs.YtdglpgepgmdbdaaGreatDoor.Vc
end Go.Proofs.YtdglpgepgmdbdaaGreatDoor
/- Plain lemmas of our own, no statement of the seat: the reference's bounds of two lists. -/
namespace Go.Proofs.YtdglpgepgmdbdaaGreatDoor
set_option linter.unusedSectionVars false
variable [Go.Proofs.YtdglpgepgmdbdaaGreatDoor.Vc.Drew]
set_option linter.unusedSimpArgs false
set_option linter.unusedVariables false
open Go.Proofs.YtdglpgepgmdbdaaGreatDoor.Vc
abbrev IntV := EncV (fun x : Int => [Value.int .i64 x]) 1
abbrev rowS (l : List Sp) : List Value := (l.map Sp.cells).flatten
theorem rowE_len {α : Type} {enc : α → List Value} {k : Nat} (hk : ∀ x, (enc x).length = k) (l : List α) : (l.map enc).flatten.length = l.length * k := by
 rw [length_flattenK (k := k) (fun us hus => by obtain ⟨x, _, rfl⟩ := List.mem_map.1 hus; exact hk x), List.length_map]
theorem rowS_len (l : List Sp) : (rowS l).length = l.length * 2 := rowE_len (enc := Sp.cells) (k := 2) (fun _ => rfl) l
theorem flat_get {α : Type} {k : Nat} {cs : List (List α)} (hk : ∀ us ∈ cs, us.length = k) (h0 : 0 < k) {i : Nat} {v : α} (h : cs.flatten[i]? = some v) : ∃ us, cs[i / k]? = some us ∧ us[i % k]? = some v := by
 have hlt := (List.getElem?_eq_some_iff.1 h).1
 rw [length_flattenK hk] at hlt
 have hq : i / k < cs.length := (Nat.div_lt_iff_lt_mul h0).2 hlt
 refine ⟨cs[i / k], List.getElem?_eq_getElem hq, ?_⟩
 have h1 := getElem?_flatten hk (i / k) (i % k) _ (List.getElem?_eq_getElem hq) (Nat.mod_lt _ h0)
 rw [Nat.mul_comm, Nat.div_add_mod] at h1
 rw [← h1]; exact h
theorem EncV.src {b : List Blk} {α : Type} {enc : α → List Value} {k : Nat} {R : RO} {a : Option Addr} {n cap : Nat} {xs : List α} (h : EncV enc k R (.slice a n cap) xs) (hn : n = xs.length) (h0 : 0 < k) (hk : ∀ x, (enc x).length = k) (h1 : ∀ x, ∀ u ∈ enc x, u.oneCell' = true) {kk : List Value → Prop} {t : Tok kk} (hkk : kk (xs.map enc).flatten) : SrcP (allR b R) k a n kk t := by
 obtain ⟨a', cap', e, _, hf⟩ := h.form
 simp only [Value.slice.injEq] at e
 obtain ⟨rfl, -, -⟩ := e
 subst hn
 refine vsrc _ (rowE_len hk xs) (fun u hu => ?_) (fun hne => ?_) hkk
 ·obtain ⟨c, hc, hu'⟩ := List.mem_flatten.1 hu
  obtain ⟨x, _, rfl⟩ := List.mem_map.1 hc
  exact h1 x u hu'
 ·have hl : 0 < xs.length := by
   rcases Nat.eq_zero_or_pos xs.length with h | h
   ·rw [List.eq_nil_of_length_eq_zero h] at hne; exact absurd rfl hne
   ·exact h
  obtain ⟨ad, ha, _⟩ := hf 0 hl
  refine ⟨ad, ha, fun i v hi => ?_⟩
  obtain ⟨us, hus, hu⟩ := flat_get (k := k) (fun us hus => by obtain ⟨x, _, rfl⟩ := List.mem_map.1 hus; exact hk x) h0 hi
  rw [List.getElem?_map] at hus
  obtain ⟨x, hx, rfl⟩ := Option.map_eq_some_iff.1 hus
  obtain ⟨hlt, rfl⟩ := List.getElem?_eq_some_iff.1 hx
  obtain ⟨ad', ha', hR⟩ := hf _ hlt
  rw [ha] at ha'
  simp only [Option.some.injEq] at ha'
  subst ha'
  have := hR _ _ hu
  rw [add_add, Nat.mul_comm, Nat.div_add_mod] at this
  exact this
theorem Sp.one (s : Sp) : ∀ u ∈ s.cells, u.oneCell' = true := by simp [Sp.cells, Value.oneCell']
theorem SpV.src {b : List Blk} {R : RO} {a : Option Addr} {n cap : Nat} {xs : List Sp} (h : SpV R (.slice a n cap) xs) (hn : n = xs.length) {kk : List Value → Prop} {t : Tok kk} (hkk : kk (rowS xs)) : SrcP (allR b R) 2 a n kk t := EncV.src h hn (by omega) (fun _ => rfl) Sp.one hkk
theorem rowS_get (l : List Sp) (i c : Nat) (hi : i < l.length) (hc : c < 2) : (rowS l)[i * 2 + c]? = (l[i].cells)[c]? := by
 induction l generalizing i with
 | nil => simp at hi
 | cons x l ih =>
  rw [show rowS (x :: l) = x.cells ++ rowS l from rfl]
  match i with
  | 0 => rw [List.getElem?_append_left (by simp [Sp.cells]; omega)]; simp
  | i + 1 =>
   rw [List.getElem?_append_right (by simp [Sp.cells]; omega)]
   simp only [Sp.cells, List.length_cons, List.length_nil, List.getElem_cons_succ]
   rw [show (i + 1) * 2 + c - (0 + 1 + 1) = i * 2 + c by omega]
   exact ih i (by simpa using hi)
theorem rowS_app (a b : List Sp) : rowS a ++ rowS b = rowS (a ++ b) := by unfold rowS; rw [List.map_append, List.flatten_append]
end Go.Proofs.YtdglpgepgmdbdaaGreatDoor
/- Plain lemmas of our own, no statement of the seat: combining two lists of spans; the reference's Combine. -/
namespace Go.Proofs.YtdglpgepgmdbdaaGreatDoor
set_option linter.unusedSectionVars false
variable [Go.Proofs.YtdglpgepgmdbdaaGreatDoor.Vc.Drew]
set_option linter.unusedSimpArgs false
set_option linter.unusedVariables false
open Go.Proofs.YtdglpgepgmdbdaaGreatDoor.Vc
structure CutAt (all : List Int) (P : Int → Bool) : Prop where
 const : ∀ i (hi : i + 1 < all.length) x, all[i] ≤ x → x < all[i + 1] → P x = P all[i]
 lo : ∀ x, (∀ y ∈ all, x < y) → P x = false
 hi : ∀ x, (∀ y ∈ all, y ≤ x) → P x = false
structure UpTo (P : Int → Bool) (out : List Sp) (t : Int) : Prop where
 nor : Normal out
 le : ∀ s ∈ out, s.t ≤ t
 mem : ∀ x, memS out x = (decide (x < t) && P x)
theorem UpTo.no {P : Int → Bool} {out : List Sp} {t u : Int} (h : UpTo P out t) (htu : t < u) (hc : ∀ x, t ≤ x → x < u → P x = P t) (hp : P t = false) : UpTo P out u :=
 ⟨h.nor, fun s hs => by have := h.le s hs; omega, fun x => by
  rw [h.mem]
  by_cases h1 : x < t
  ·rw [decide_eq_true h1, decide_eq_true (show x < u by omega)]
  ·rw [decide_eq_false h1, Bool.false_and]
   by_cases h2 : x < u
   ·rw [hc x (by omega) h2, hp, Bool.and_false]
   ·rw [decide_eq_false h2, Bool.false_and]⟩
theorem UpTo.new {P : Int → Bool} {out : List Sp} {t u : Int} (h : UpTo P out t) (htu : t < u) (hc : ∀ x, t ≤ x → x < u → P x = P t) (hp : P t = true) (hl : ∀ s ∈ out, s.t ≠ t) : UpTo P (out ++ [⟨t, u⟩]) u :=
 ⟨h.nor.snoc htu fun x hx => by have := h.le x hx; have := hl x hx; show _ < t; omega, fun s hs => by
  rcases List.mem_append.1 hs with hs | hs
  ·have := h.le s hs; omega
  ·simp only [List.mem_cons, List.not_mem_nil, or_false] at hs
   subst hs; exact Int.le_refl _, fun x => by
  rw [memS_app, h.mem, memS_cons, memS_nil, Bool.or_false]
  by_cases h1 : x < t
  ·rw [decide_eq_true h1, decide_eq_true (show x < u by omega), decide_eq_false (show ¬ t ≤ x by omega), Bool.false_and, Bool.or_false]
  ·rw [decide_eq_false h1, Bool.false_and, Bool.false_or, decide_eq_true (show t ≤ x by omega), Bool.true_and]
   by_cases h2 : x < u
   ·rw [hc x (by omega) h2, hp, Bool.and_true]
   ·rw [decide_eq_false h2, Bool.false_and]⟩
theorem UpTo.grow {P : Int → Bool} {out : List Sp} {s : Sp} {t u : Int} (h : UpTo P (out ++ [s]) t) (htu : t < u) (hc : ∀ x, t ≤ x → x < u → P x = P t) (hp : P t = true) (hl : s.t = t) : UpTo P (out ++ [⟨s.f, u⟩]) u :=
 have hs := h.nor.last
 ⟨hs.1.snoc (by show s.f < u; omega) fun x hx => hs.2.2 x hx, fun x hx => by
  rcases List.mem_append.1 hx with hx | hx
  ·have := h.le x (by simp [hx]); omega
  ·simp only [List.mem_cons, List.not_mem_nil, or_false] at hx
   subst hx; exact Int.le_refl _, fun x => by
  have h0 := h.mem x
  rw [memS_app, memS_cons, memS_nil, Bool.or_false] at h0
  rw [memS_app, memS_cons, memS_nil, Bool.or_false]
  show (memS out x || (decide (s.f ≤ x) && decide (x < u))) = _
  by_cases h1 : x < t
  ·have e : decide (x < s.t) = true := decide_eq_true (by omega)
   rw [e, decide_eq_true h1] at h0
   rw [decide_eq_true (show x < u by omega)]
   exact h0
  ·have hf : memS out x = false := by
    cases hx : memS out x with
    | false => rfl
    | true => rw [hx, decide_eq_false h1] at h0; simp at h0
   rw [hf, Bool.false_or, decide_eq_true (show s.f ≤ x by omega), Bool.true_and]
   by_cases h2 : x < u
   ·rw [hc x (by omega) h2, hp, Bool.and_true]
   ·rw [decide_eq_false h2, Bool.false_and]⟩
theorem UpTo.last_ne {P : Int → Bool} {out : List Sp} {t : Int} (h : UpTo P out t) (hl : ∀ (hn : 0 < out.length), (out[out.length - 1]'(by omega)).t ≠ t) : ∀ s ∈ out, s.t ≠ t := by
 intro s hs e
 obtain ⟨j, hj, rfl⟩ := List.mem_iff_getElem.1 hs
 by_cases hjl : j = out.length - 1
 ·subst hjl; exact hl (by omega) e
 ·have h1 := List.pairwise_iff_getElem.1 h.nor.ord j (out.length - 1) hj (by omega) (by omega)
  have h2 := h.nor.pos _ (List.getElem_mem (show out.length - 1 < out.length by omega))
  have h3 := h.le _ (List.getElem_mem (show out.length - 1 < out.length by omega))
  omega
theorem UpTo.fin {all : List Int} {P : Int → Bool} (hI : Inc all) (hC : CutAt all P) {out : List Sp} {i : Nat} (hi : i + 1 = all.length) (h : UpTo P out (all[i]'(by omega))) : ∀ x, memS out x = P x := by
 intro x
 rw [h.mem]
 by_cases h1 : x < all[i]
 ·rw [decide_eq_true h1, Bool.true_and]
 ·rw [decide_eq_false h1, Bool.false_and]
  symm
  refine hC.hi x fun y hy => ?_
  obtain ⟨j, hj, rfl⟩ := List.mem_iff_getElem.1 hy
  rcases Nat.eq_or_lt_of_le (show j ≤ i by omega) with h | h
  ·subst h; omega
  ·have := hI.get_lt h (show i < all.length by omega); omega
theorem rowS_grow (o : List Sp) (s : Sp) (t : Int) : (rowS (o ++ [s])).set (((o ++ [s]).length - 1) * 2 + 1) (.int .i64 t) = rowS (o ++ [⟨s.f, t⟩]) := by
 rw [← rowS_app, ← rowS_app, List.set_append_right _ _ (by rw [rowS_len]; simp)]
 congr 1
 rw [rowS_len, List.length_append, show (o.length + [s].length - 1) * 2 + 1 - o.length * 2 = 1 by simp]
 rfl
theorem split_last {α : Type} (l : List α) (h : l.length - 1 < l.length) : l = l.take (l.length - 1) ++ [l[l.length - 1]] := by
 have h1 := List.take_succ_eq_append_getElem h
 rw [← h1, List.take_of_length_le (by omega)]
end Go.Proofs.YtdglpgepgmdbdaaGreatDoor
/- Plain lemmas of our own, no statement of the seat: groups; which group a person belongs to. -/
namespace Go.Proofs.YtdglpgepgmdbdaaGreatDoor
set_option linter.unusedSectionVars false
variable [Go.Proofs.YtdglpgepgmdbdaaGreatDoor.Vc.Drew]
set_option linter.unusedSimpArgs false
set_option linter.unusedVariables false
open Go.Proofs.YtdglpgepgmdbdaaGreatDoor.Vc
/-! ### Groups -/
/-- A list of lists of numbers in memory. -/
def GV (R : RO) (v : Value) (gs : List (List Int)) : Prop := ∃ hs : List Value, EncV (fun x : Value => [x]) 1 R v hs ∧ hs.length = gs.length ∧ ∀ i (h : i < hs.length) (h' : i < gs.length), IntV R hs[i] gs[i]
theorem GV.mono {R R' : RO} {v : Value} {gs : List (List Int)} (h : GV R v gs) (hle : RO.le R R') : GV R' v gs := by
 obtain ⟨hs, h1, h2, h3⟩ := h
 exact ⟨hs, h1.mono hle, h2, fun i h h' => (h3 i h h').mono hle⟩
theorem GV.form {R : RO} {v : Value} {gs : List (List Int)} (h : GV R v gs) : gs.length ≤ 1000000000 ∧ ∃ a cap, v = .slice a gs.length cap ∧ gs.length ≤ cap ∧ ∀ i (hi : i < gs.length), ∃ ad u, a = some ad ∧ R (ad.add i) u ∧ IntV R u gs[i] := by
 obtain ⟨hs, h1, h2, h3⟩ := h
 have hl := h1.2
 obtain ⟨a, cap, rfl, hc, hf⟩ := h1.form
 refine ⟨by omega, a, cap, by rw [h2], by omega, fun i hi => ?_⟩
 obtain ⟨ad, ha, hR⟩ := hf i (by omega)
 have := hR 0 _ rfl
 rw [add_add, Nat.mul_one, Nat.add_zero] at this
 exact ⟨ad, _, ha, this, h3 i (by omega) hi⟩
theorem IntV.form {R : RO} {v : Value} {xs : List Int} (h : IntV R v xs) : xs.length ≤ 1000000000 ∧ ∃ a cap, v = .slice a xs.length cap ∧ xs.length ≤ cap ∧ ∀ i (hi : i < xs.length), ∃ ad, a = some ad ∧ R (ad.add i) (.int .i64 xs[i]) := by
 have hl := h.2
 obtain ⟨a, cap, rfl, hc, hf⟩ := EncV.form h
 refine ⟨hl, a, cap, rfl, hc, fun i hi => ?_⟩
 obtain ⟨ad, ha, hR⟩ := hf i hi
 have := hR 0 _ rfl
 rw [add_add, Nat.mul_one, Nat.add_zero] at this
 exact ⟨ad, ha, this⟩
def grpOf (gs : List (List Int)) (p : Int) : Int := match gs.findIdx? fun g => g.contains p with
 | some i => i
 | none => -1 - p
theorem grpOf_here {gs : List (List Int)} {p : Int} {i : Nat} (hi : i < gs.length) (h : gs[i].contains p = true) (hno : ∀ j (hj : j < gs.length), j < i → gs[j].contains p = false) : grpOf gs p = i := by
 unfold grpOf
 rw [show gs.findIdx? (fun g => g.contains p) = some i from List.findIdx?_eq_some_iff_getElem.2 ⟨hi, h, fun j hj => by rw [hno j (by omega) hj]; simp⟩]
theorem grpOf_none {gs : List (List Int)} {p : Int} (hno : ∀ j (hj : j < gs.length), gs[j].contains p = false) : grpOf gs p = -1 - p := by
 unfold grpOf
 rw [List.findIdx?_eq_none_iff.2 fun g hg => by obtain ⟨j, hj, rfl⟩ := List.mem_iff_getElem.1 hg; exact hno j hj]
end Go.Proofs.YtdglpgepgmdbdaaGreatDoor
/- Plain lemmas of our own, no statement of the seat: budget.groupOf. -/
namespace Go.Proofs.YtdglpgepgmdbdaaGreatDoor
set_option linter.unusedSectionVars false
variable [Go.Proofs.YtdglpgepgmdbdaaGreatDoor.Vc.Drew]
set_option linter.unusedSimpArgs false
set_option linter.unusedVariables false
open Go.Proofs.YtdglpgepgmdbdaaGreatDoor.Vc
theorem bIndexI (xs : List Int) (p : Int) (v : Value) (R : RO) (h : IntV R v xs) : CallsR Tryz.prog 68 [v, .int .i64 p] R fun _ r => ∃ k : Int, r = .int .i64 k ∧ (0 ≤ k ↔ xs.contains p = true) := by
 obtain ⟨hxl, a, cap, rfl, hc, hg⟩ := h.form
 refine callsT mix Tryz.func68 comp68 (by simp [Tryz.ntmps68]) ?_; simp only [go_sem, ↓reduceIte, nQ1, nQ2, nQ3, nQ4, nQ5, nQ6, reduceCtorEq, vc68, rs68]
 refine vcLoop Nat (fun i => [(8, .val (.int .i64 i)), (7, .val (.int .i64 xs.length)), (0, .val (.slice a xs.length cap)), (1, .val (.int .i64 p))]) (fun _ => []) (fun i _ => i ≤ xs.length ∧ ∀ j (hj : j < xs.length), j < i → xs[j] ≠ p) (fun i => xs.length - i) 0 ?_ ?_ ?_ ?_
 ·(try simp only [go_sem, ↓reduceIte, nQ1, nQ2, nQ3, nQ4, nQ5, nQ6, reduceCtorEq]) <;> (repeat' (first | rfl | trivial | constructor | (intro h; exact absurd rfl h)))
 ·try simp only [go_sem, ↓reduceIte, nQ1, nQ2, nQ3, nQ4, nQ5, nQ6, reduceCtorEq]
 ·exact ⟨Nat.zero_le _, fun j _ hj => absurd hj (by omega)⟩
 rintro i env R1 hle1 hE ⟨hi, hno⟩
 (simp only [go_sem] at hE; obtain ⟨e8, e7, e0, e1⟩ := hE; simp only [go_sem, ↓reduceIte, nQ1, nQ2, nQ3, nQ4, nQ5, nQ6, reduceCtorEq, e8, e7, e0, e1]; dsimp only at *)
 refine ⟨fun hlt => ?_, fun hge => ?_⟩
 ·have hlt' : i < xs.length := by omega
  obtain ⟨ad, had, hR⟩ := hg i hlt'
  refine ⟨by omega, vat ad had ?_⟩
  try simp only [go_sem, ↓reduceIte, nQ1, nQ2, nQ3, nQ4, nQ5, nQ6, reduceCtorEq]
  refine vload _ (hle1 _ _ hR) ?_
  simp only [go_sem, ↓reduceIte, nQ1, nQ2, nQ3, nQ4, nQ5, nQ6, reduceCtorEq, e8, e7, e0, e1]
  refine ⟨fun he => ?_, fun he => ?_⟩
  ·refine ⟨_, rfl, fun _ => ?_, fun _ => by omega⟩
   rw [List.contains_iff_mem, he]
   exact List.getElem_mem hlt'
  ·refine ⟨_, W.in64 (by omega), i + 1, by omega, rfl, by omega, fun j hj hji => ?_⟩
   by_cases hij : j = i
   ·subst hij; exact fun e => he e.symm
   ·exact hno j hj (by omega)
 ·refine ⟨_, rfl, fun h => absurd h (by decide), fun h => ?_⟩
  rw [List.contains_iff_mem] at h
  obtain ⟨j, hj, e⟩ := List.mem_iff_getElem.1 h
  exact absurd e (hno j hj (by omega))
theorem bContainsI (xs : List Int) (p : Int) (v : Value) (R : RO) (h : IntV R v xs) : CallsR Tryz.prog 38 [v, .int .i64 p] R fun _ r => r = .bool (xs.contains p) := by
 have hI := bIndexI xs p v R h
 refine callsT mix Tryz.func38 comp38 (by simp [Tryz.ntmps38]) ?_; simp only [go_sem, ↓reduceIte, nQ1, nQ2, nQ3, nQ4, nQ5, nQ6, reduceCtorEq, vc38, rs38]
 refine vcall hI ?_
 rintro R1 r hle1 ⟨k, rfl, hk⟩
 try simp only [go_sem, ↓reduceIte, nQ1, nQ2, nQ3, nQ4, nQ5, nQ6, reduceCtorEq]
 congr 1
 rw [Bool.eq_iff_iff, decide_eq_true_eq]
 exact hk
theorem bGroupOf1 (xs : List Int) (p : Int) (v : Value) (ad : Addr) (R : RO) (h : IntV R v xs) (hp : R ad (.int .i64 p)) : CallsR Tryz.prog 37 [v, .pointer (some ad)] R fun _ r => r = .bool (xs.contains p) := by
 have hC := fun R' hle => bContainsI xs p v R' (EncV.mono (R' := R') h hle)
 refine callsT mix Tryz.func37 comp37 (by simp [Tryz.ntmps37]) ?_; simp only [go_sem, ↓reduceIte, nQ1, nQ2, nQ3, nQ4, nQ5, nQ6, reduceCtorEq, vc37, rs37]
 refine vload _ hp ?_
 try simp only [go_sem, ↓reduceIte, nQ1, nQ2, nQ3, nQ4, nQ5, nQ6, reduceCtorEq]
 refine vcall (hC R (RO.le_refl _)) ?_
 rintro R1 r hle1 rfl
 try simp only [go_sem, ↓reduceIte, nQ1, nQ2, nQ3, nQ4, nQ5, nQ6, reduceCtorEq]
theorem bIndexG (f : FuncId) (caps : List Value) (hb : hasBody Tryz.prog f = true) (p : List Int → Bool) (gs : List (List Int)) (v : Value) (R : RO) (h : GV R v gs)
  (hf : ∀ (g : List Int) (u : Value) (R' : RO), RO.le R R' → IntV R' u g → CallsR Tryz.prog f ([u] ++ caps) R' fun _ u => u = .bool (p g)) : CallsR Tryz.prog 36 [v, .func (.func f) #[] caps.toArray] R fun _ u => u = .int .i64 (match gs.findIdx? p with | some i => (i : Int) | none => -1) := by
 obtain ⟨hxl, a, cap, rfl, hc, hg⟩ := h.form
 refine callsT mix Tryz.func36 comp36 (by simp [Tryz.ntmps36]) ?_; simp only [go_sem, ↓reduceIte, nQ1, nQ2, nQ3, nQ4, nQ5, nQ6, reduceCtorEq, vc36, rs36]
 refine vcLoop Nat (fun i => [(8, .val (.int .i64 i)), (7, .val (.int .i64 gs.length)), (0, .val (.slice a gs.length cap)), (1, .val (.func (.func f) #[] caps.toArray))]) (fun _ => []) (fun i _ => i ≤ gs.length ∧ ∀ j (hj : j < gs.length), j < i → p gs[j] = false) (fun i => gs.length - i) 0 ?_ ?_ ?_ ?_
 ·(try simp only [go_sem, ↓reduceIte, nQ1, nQ2, nQ3, nQ4, nQ5, nQ6, reduceCtorEq]) <;> (repeat' (first | rfl | trivial | constructor | (intro h; exact absurd rfl h)))
 ·try simp only [go_sem, ↓reduceIte, nQ1, nQ2, nQ3, nQ4, nQ5, nQ6, reduceCtorEq]
 ·exact ⟨Nat.zero_le _, fun j _ hj => absurd hj (by omega)⟩
 rintro i env R1 hle1 hE ⟨hi, hno⟩
 (simp only [go_sem] at hE; obtain ⟨e8, e7, e0, e1⟩ := hE; simp only [go_sem, ↓reduceIte, nQ1, nQ2, nQ3, nQ4, nQ5, nQ6, reduceCtorEq, e8, e7, e0, e1]; dsimp only at *)
 refine ⟨fun hlt => ?_, fun hge => ?_⟩
 ·have hlt' : i < gs.length := by omega
  obtain ⟨ad, u, had, hR, hu⟩ := hg i hlt'
  refine ⟨by omega, vat ad had ?_⟩
  try simp only [go_sem, ↓reduceIte, nQ1, nQ2, nQ3, nQ4, nQ5, nQ6, reduceCtorEq]
  refine vload _ (hle1 _ _ hR) ?_
  simp only [go_sem, ↓reduceIte, nQ1, nQ2, nQ3, nQ4, nQ5, nQ6, reduceCtorEq, e8, e7, e0, e1]
  refine ⟨hb, vcall (hf gs[i] u R1 hle1 (hu.mono hle1)) ?_⟩
  rintro R2 v hle2 rfl
  simp only [go_sem, ↓reduceIte, nQ1, nQ2, nQ3, nQ4, nQ5, nQ6, reduceCtorEq, e8, e7, e0, e1]
  refine ⟨fun hp => ?_, fun hp => ?_⟩
  ·rw [show gs.findIdx? p = some i from List.findIdx?_eq_some_iff_getElem.2 ⟨hlt', hp, fun j hj => by rw [hno j (by omega) hj]; simp⟩]
  ·refine ⟨_, W.in64 (by omega), i + 1, by omega, rfl, by omega, fun j hj hji => ?_⟩
   by_cases h : j = i
   ·subst h; exact hp
   ·exact hno j hj (by omega)
 ·rw [List.findIdx?_eq_none_iff.2 fun g hg => by obtain ⟨j, hj, rfl⟩ := List.mem_iff_getElem.1 hg; exact hno j hj (by omega)]
theorem bGroupOf (gs : List (List Int)) (p : Int) (hp : -1000000 ≤ p ∧ p ≤ 1000000) (v : Value) (R : RO) (h : GV R v gs) : CallsR Tryz.prog 17 [v, .int .i64 p] R fun _ r => r = .int .i64 (grpOf gs p) := by
 obtain ⟨hxl, a, cap, rfl, hc, hg⟩ := h.form
 refine callsT mix Tryz.func17 comp17 (by simp [Tryz.ntmps17]) ?_; simp only [go_sem, ↓reduceIte, nQ1, nQ2, nQ3, nQ4, nQ5, nQ6, reduceCtorEq, vc17, rs17]
 have hb1 : hasBody Tryz.prog 37 = true := by kernel_rfl
 refine vlend ?_
 intro β κ R1 hL
 have hbox := hL.2 0 _ rfl
 refine ⟨_, bIndexG 37 [.pointer (some ⟨β 0, 0, none⟩)] hb1 (fun g => g.contains p) gs _ R1 (h.mono hL.1) ?_, ?_⟩
 ·intro g u R2 hle2 hu
  exact bGroupOf1 g p u ⟨β 0, 0, none⟩ R2 hu (hle2 _ _ (hbox 0 _ rfl))
 rintro R2 r R3 hle2 rfl hle3 _
 try simp only [go_sem, ↓reduceIte, nQ1, nQ2, nQ3, nQ4, nQ5, nQ6, reduceCtorEq]
 cases hi : gs.findIdx? (fun g => g.contains p) with
 | some i =>
  have hil : i < gs.length := (List.findIdx?_eq_some_iff_getElem.1 hi).1
  try simp only [go_sem, ↓reduceIte, nQ1, nQ2, nQ3, nQ4, nQ5, nQ6, reduceCtorEq]
  unfold grpOf
  rw [hi]
 | none =>
  try simp only [go_sem, ↓reduceIte, nQ1, nQ2, nQ3, nQ4, nQ5, nQ6, reduceCtorEq]
  refine ⟨fun h => absurd h (by decide), fun _ => ⟨_, W.in64 (by omega), ?_⟩⟩
  unfold grpOf
  rw [hi]
end Go.Proofs.YtdglpgepgmdbdaaGreatDoor
/- Plain lemmas of our own, no statement of the seat: aligned lists. -/
namespace Go.Proofs.YtdglpgepgmdbdaaGreatDoor
set_option linter.unusedSectionVars false
variable [Go.Proofs.YtdglpgepgmdbdaaGreatDoor.Vc.Drew]
set_option linter.unusedSimpArgs false
set_option linter.unusedVariables false
open Go.Proofs.YtdglpgepgmdbdaaGreatDoor.Vc
end Go.Proofs.YtdglpgepgmdbdaaGreatDoor
/- Plain lemmas of our own, no statement of the seat: valid groups. -/
namespace Go.Proofs.YtdglpgepgmdbdaaGreatDoor
set_option linter.unusedSectionVars false
variable [Go.Proofs.YtdglpgepgmdbdaaGreatDoor.Vc.Drew]
set_option linter.unusedSimpArgs false
set_option linter.unusedVariables false
open Go.Proofs.YtdglpgepgmdbdaaGreatDoor.Vc
structure OkG (gs : List (List Int)) (i : Nat) (g : List Int) : Prop where
 ne : g ≠ []
 inc : Inc g
 mem : ∀ p ∈ g, personB p = true ∧ grpOf gs p = i
structure ValidG (gs : List (List Int)) : Prop where
 all : ∀ i (hi : i < gs.length), OkG gs i gs[i]
 len : gs.length ≤ 512
noncomputable def validG (gs : List (List Int)) : Bool := @decide (ValidG gs) (Classical.propDecidable _)
theorem validG_iff {gs : List (List Int)} : validG gs = true ↔ ValidG gs := @decide_eq_true_iff _ (Classical.propDecidable _)
theorem validG_false {gs : List (List Int)} (h : ¬ ValidG gs) : validG gs = false := @decide_eq_false _ (Classical.propDecidable _) h
end Go.Proofs.YtdglpgepgmdbdaaGreatDoor
/- Plain lemmas of our own, no statement of the seat: budgets in memory. -/
namespace Go.Proofs.YtdglpgepgmdbdaaGreatDoor
set_option linter.unusedSectionVars false
variable [Go.Proofs.YtdglpgepgmdbdaaGreatDoor.Vc.Drew]
set_option linter.unusedSimpArgs false
set_option linter.unusedVariables false
open Go.Proofs.YtdglpgepgmdbdaaGreatDoor.Vc
structure Se where
 group : Int
 grain : Int
 cells : List Sp
 deriving DecidableEq
def seCells (p : Se × Value) : List Value := [.int .i64 p.1.group, .int .i64 p.1.grain, p.2]
def SpentV (R : RO) (v : Value) (l : List Se) : Prop := ∃ ps : List (Se × Value), EncV seCells 3 R v ps ∧ ps.map (·.1) = l ∧ ∀ p ∈ ps, SpV R p.2 p.1.cells
theorem SpentV.mono {R R' : RO} {v : Value} {l : List Se} (h : SpentV R v l) (hle : RO.le R R') : SpentV R' v l := by
 obtain ⟨ps, h1, h2, h3⟩ := h
 exact ⟨ps, h1.mono hle, h2, fun p hp => (h3 p hp).mono hle⟩
theorem SpentV.form {R : RO} {v : Value} {l : List Se} (h : SpentV R v l) : l.length ≤ 1000000000 ∧ ∃ a cap, v = .slice a l.length cap ∧ l.length ≤ cap ∧ ∀ i (hi : i < l.length), ∃ ad u, a = some ad ∧ (∀ j w, (seCells (l[i], u))[j]? = some w → R ((ad.add (i * 3)).add j) w) ∧ SpV R u l[i].cells := by
 obtain ⟨ps, h1, rfl, h3⟩ := h
 have hl := h1.2
 obtain ⟨a, cap, rfl, hc, hf⟩ := h1.form
 refine ⟨by simpa using hl, a, cap, by rw [List.length_map], by simpa using hc, fun i hi => ?_⟩
 have hi' : i < ps.length := by simpa using hi
 obtain ⟨ad, ha, hR⟩ := hf i hi'
 refine ⟨ad, ps[i].2, ha, ?_, ?_⟩
 ·rw [List.getElem_map]; exact hR
 ·rw [List.getElem_map]; exact h3 _ (List.getElem_mem hi')
structure Bu where
 limit : Int
 groups : List (List Int)
 spent : List Se
def BuV (R : RO) (v : Value) (b : Bu) : Prop := ∃ gv sv, v = .agg #[.int .i64 b.limit, gv, sv] ∧ GV R gv b.groups ∧ SpentV R sv b.spent
theorem BuV.mono {R R' : RO} {v : Value} {b : Bu} (h : BuV R v b) (hle : RO.le R R') : BuV R' v b := by
 obtain ⟨gv, sv, e, h1, h2⟩ := h
 exact ⟨gv, sv, e, h1.mono hle, h2.mono hle⟩
end Go.Proofs.YtdglpgepgmdbdaaGreatDoor
namespace Go.Proofs.YtdglpgepgmdbdaaGreatDoor.Vc
set_option linter.unusedSectionVars false
variable [Go.Proofs.YtdglpgepgmdbdaaGreatDoor.Vc.Drew]
set_option linter.unusedSimpArgs false
set_option linter.unusedVariables false
section
variable {K : Type} [DecidableEq K] (ks : Option (List Nat)) (kenc : K → Value)
def entOf (x : K × Value × Nat) : MapEntry := ⟨kenc x.1, x.2.1, x.2.2⟩
def MapOf (es : List MapEntry) (f : K → Option Value) : Prop :=
 ∃ l : List (K × Value × Nat), es = l.map (entOf kenc) ∧ (l.map (·.1)).Nodup ∧ ∀ k, f k = (l.find? fun x => decide (x.1 = k)).map (·.2.1)
theorem MapOf.nil : MapOf kenc [] (fun _ => none) := ⟨[], rfl, List.nodup_nil, fun _ => rfl⟩
variable (hks : ∀ a b : K, mEq ks (kenc a) (kenc b) = some (decide (a = b)))
include hks
theorem mfind_list (k : K) : ∀ (l : List (K × Value × Nat)) (i : Nat), ∃ r, mfind ks (kenc k) (l.map (entOf kenc)) i = some r ∧ r.map (·.2) = (l.find? fun x => decide (x.1 = k)).map (·.2.1) ∧
  ((r = none ∧ ∀ x ∈ l, x.1 ≠ k) ∨ ∃ (j : Nat) (x : K × Value × Nat), r = some (i + j, x.2.1) ∧ l[j]? = some x ∧ x.1 = k)
 | [], i => ⟨none, rfl, rfl, .inl ⟨rfl, by simp⟩⟩
 | x :: l, i => by
  rw [List.map_cons, mfind]
  simp only [entOf, hks]
  by_cases h : k = x.1
  ·rw [decide_eq_true h]
   exact ⟨_, rfl, by simp [h], .inr ⟨0, x, rfl, rfl, h.symm⟩⟩
  ·rw [decide_eq_false h]
   obtain ⟨r, h1, h2, h3⟩ := mfind_list k l (i + 1)
   refine ⟨r, h1, ?_, ?_⟩
   ·rw [h2, List.find?_cons, decide_eq_false (fun e => h e.symm)]
   ·rcases h3 with ⟨h3, h4⟩ | ⟨j, y, h3, h4, h5⟩
    ·exact .inl ⟨h3, fun y hy => by
      rcases List.mem_cons.1 hy with rfl | hy
      ·exact fun e => h e.symm
      ·exact h4 y hy⟩
    ·exact .inr ⟨j + 1, y, by rw [h3]; congr 2; omega, by simpa using h4, h5⟩
theorem MapOf.get {es : List MapEntry} {f : K → Option Value} (h : MapOf kenc es f) (k : K) : ∃ r, mfind ks (kenc k) es 0 = some r ∧ r.map (·.2) = f k := by
 obtain ⟨l, rfl, _, hf⟩ := h
 obtain ⟨r, h1, h2, _⟩ := mfind_list ks kenc hks k l 0
 exact ⟨r, h1, by rw [h2, hf]⟩
theorem MapOf.put {es : List MapEntry} {f : K → Option Value} (h : MapOf kenc es f) (k : K) (v : Value) (clock : Nat) : ∃ r es' clock', mfind ks (kenc k) es 0 = some r ∧ mset (kenc k) v es clock r = .mp es' clock' ∧ MapOf kenc es' (fun k' => if k' = k then some v else f k') := by
 obtain ⟨l, rfl, hnd, hf⟩ := h
 obtain ⟨r, h1, h2, h3⟩ := mfind_list ks kenc hks k l 0
 refine ⟨r, ?_⟩
 rcases h3 with ⟨rfl, h4⟩ | ⟨j, x, rfl, h4, h5⟩
 ·refine ⟨_, _, h1, rfl, l ++ [(k, v, clock)], by simp [entOf], ?_, fun k' => ?_⟩
  ·rw [List.map_append, List.nodup_append]
   refine ⟨hnd, by simp, fun a ha b hb e => ?_⟩
   simp only [List.map_cons, List.map_nil, List.mem_cons, List.not_mem_nil, or_false] at hb
   obtain ⟨x, hx, rfl⟩ := List.mem_map.1 ha
   exact h4 x hx (e.trans hb)
  ·show (if k' = k then some v else f k') = _
   rw [List.find?_append, hf]
   by_cases he : k' = k
   ·subst he
    rw [if_pos rfl]
    have : l.find? (fun x => decide (x.1 = k')) = none := List.find?_eq_none.2 fun x hx => by simpa using h4 x hx
    rw [this]
    simp
   ·rw [if_neg he]
    cases hq : l.find? (fun x => decide (x.1 = k')) with
    | some y => rfl
    | none => simp [Ne.symm he]
 ·subst h5
  have hj := (List.getElem?_eq_some_iff.1 h4).1
  have hx : l[j] = x := (List.getElem?_eq_some_iff.1 h4).2
  refine ⟨_, _, h1, rfl, l.set j (x.1, v, x.2.2), ?_, ?_, fun k' => ?_⟩
  ·apply List.ext_getElem?
   intro i
   rw [List.getElem?_modify, List.getElem?_map, List.getElem?_map, List.getElem?_set]
   by_cases hi : 0 + j = i
   ·have hi' : j = i := by omega
    subst hi'
    subst hx
    simp [hj, entOf]
   ·have hne : ¬ j = i := by omega
    cases l[i]? <;> simp [hne]
  ·have : (l.set j (x.1, v, x.2.2)).map (·.1) = l.map (·.1) := by
    apply List.ext_getElem?
    intro i
    rw [List.getElem?_map, List.getElem?_map, List.getElem?_set]
    by_cases hi : j = i
    ·subst hi; subst hx; simp [hj]
    ·rw [if_neg hi]
   rw [this]; exact hnd
  ·show (if k' = x.1 then some v else f k') = _
   rw [hf]
   -- the list around j
   have hsplit : l = l.take j ++ x :: l.drop (j + 1) := by
    rw [← hx, ← List.drop_eq_getElem_cons hj, List.take_append_drop]
   have hset : l.set j (x.1, v, x.2.2) = l.take j ++ (x.1, v, x.2.2) :: l.drop (j + 1) := List.set_eq_take_append_cons_drop.trans (by rw [if_pos hj])
   have hpre : ∀ y ∈ l.take j, y.1 ≠ x.1 := by
    intro y hy e
    rw [hsplit, List.map_append, List.nodup_append] at hnd
    exact hnd.2.2 y.1 (List.mem_map_of_mem (f := (·.1)) hy) x.1 (by simp) e
   by_cases he : k' = x.1
   ·subst he
    rw [if_pos rfl, hset, List.find?_append]
    have : (l.take j).find? (fun y => decide (y.1 = x.1)) = none := List.find?_eq_none.2 fun y hy => by simpa using hpre y hy
    rw [this]
    simp
   ·rw [if_neg he, hset]
    conv => lhs; rw [hsplit]
    rw [List.find?_append, List.find?_append, List.find?_cons, List.find?_cons, decide_eq_false (fun e => he e.symm)]
end
theorem mEq_int (a b : Int) : mEq none (.int .i64 a) (.int .i64 b) = some (decide (a = b)) := by
 by_cases h : a = b <;> simp [mEq, h]
def pairV (p : Int × Int) : Value := .agg #[.int .i64 p.1, .int .i64 p.2]
theorem mEq_pair (a b : Int × Int) : mEq (some [0, 0]) (pairV a) (pairV b) = some (decide (a = b)) := by
 obtain ⟨a1, a2⟩ := a
 obtain ⟨b1, b2⟩ := b
 simp only [mEq, pairV, eqCells, if_true, Option.map_some, Prod.mk.injEq]
 congr 1
 by_cases h : a1 = b1 <;> by_cases k : a2 = b2 <;> simp [h, k]
end Go.Proofs.YtdglpgepgmdbdaaGreatDoor.Vc
/- Plain lemmas of our own, no statement of the seat: valid elements of Spent. -/
namespace Go.Proofs.YtdglpgepgmdbdaaGreatDoor
set_option linter.unusedSectionVars false
variable [Go.Proofs.YtdglpgepgmdbdaaGreatDoor.Vc.Drew]
set_option linter.unusedSimpArgs false
set_option linter.unusedVariables false
open Go.Proofs.YtdglpgepgmdbdaaGreatDoor.Vc
def I64 (n : Int) : Prop := -9223372036854775808 ≤ n ∧ n ≤ 9223372036854775807
structure OkS (gs : List (List Int)) (s : Se) : Prop where
 grain : 1 ≤ s.grain ∧ s.grain ≤ 4
 ne : s.cells ≠ []
 group : s.group < gs.length
 alone : s.group < 0 → personB (-1 - s.group) = true ∧ grpOf gs (-1 - s.group) = s.group
 nor : validS s.cells = true
 ali : (s.cells.all fun c => alignedB c (sizeI s.grain)) = true
def keyLt (a b : Se) : Prop := a.group < b.group ∨ (a.group = b.group ∧ a.grain < b.grain)
structure OkB (b : Bu) : Prop where
 lim : 0 ≤ b.limit ∧ b.limit ≤ 2251799813685248
 groups : ValidG b.groups
 each : ∀ s ∈ b.spent, OkS b.groups s
 ord : b.spent.Pairwise keyLt
theorem sizeI_pos (g : Int) : 0 < sizeI g := by
 unfold sizeI
 split
 ·decide
 ·split <;> decide
structure RawS (s : Se) : Prop where
 group : I64 s.group
 len : s.cells.length ≤ 1000
structure RawB (b : Bu) : Prop where
 spent : ∀ s ∈ b.spent, RawS s
 len : b.spent.length ≤ 1000
noncomputable def okB (b : Bu) : Bool := @decide (OkB b) (Classical.propDecidable _)
theorem okB_iff {b : Bu} : okB b = true ↔ OkB b := @decide_eq_true_iff _ (Classical.propDecidable _)
theorem okB_false {b : Bu} (h : ¬ OkB b) : okB b = false := @decide_eq_false _ (Classical.propDecidable _) h
theorem keyLt_trans {a b c : Se} (h : keyLt a b) (k : keyLt b c) : keyLt a c := by unfold keyLt at *; omega
theorem keys_take {l : List Se} {i : Nat} (hi : i < l.length) (h : (l.take i).Pairwise keyLt) (h1 : 0 < i → keyLt (l[i - 1]'(by omega)) l[i]) : (l.take (i + 1)).Pairwise keyLt := by
 rw [List.take_succ_eq_append_getElem hi]
 refine List.pairwise_append.2 ⟨h, List.pairwise_singleton _ _, fun x hx y hy => ?_⟩
 simp only [List.mem_cons, List.not_mem_nil, or_false] at hy
 subst hy
 obtain ⟨j, hj, rfl⟩ := List.mem_take_iff_getElem.1 hx
 by_cases hji : j = i - 1
 ·subst hji; exact h1 (by omega)
 ·have h3 := List.pairwise_iff_getElem.1 h j (i - 1) (by simp; omega) (by simp; omega) (by omega)
  rw [List.getElem_take, List.getElem_take] at h3
  exact keyLt_trans h3 (h1 (by omega))
end Go.Proofs.YtdglpgepgmdbdaaGreatDoor
/- Plain lemmas of our own, no statement of the seat: budget.validGroups. -/
namespace Go.Proofs.YtdglpgepgmdbdaaGreatDoor
set_option linter.unusedSectionVars false
variable [Go.Proofs.YtdglpgepgmdbdaaGreatDoor.Vc.Drew]
set_option linter.unusedSimpArgs false
set_option linter.unusedVariables false
open Go.Proofs.YtdglpgepgmdbdaaGreatDoor.Vc
def SeenP (gs : List (List Int)) (i : Nat) (g : List Int) (p : Int) : Prop := (∃ (j : Nat) (hj : j < gs.length), j < i ∧ p ∈ gs[j]) ∨ p ∈ g
structure FineG (gs : List (List Int)) (i : Nat) : Prop where
 ne : ∀ j (hj : j < gs.length), j < i → gs[j] ≠ []
 inc : ∀ j (hj : j < gs.length), j < i → Inc gs[j]
 per : ∀ j (hj : j < gs.length), j < i → ∀ p ∈ gs[j], personB p = true
 apart : ∀ j (hj : j < gs.length), j < i → ∀ p ∈ gs[j], ∀ j' (hj' : j' < gs.length), j' < j → p ∉ gs[j']
theorem FineG.step {gs : List (List Int)} {i : Nat} (h : FineG gs i) (hi : i < gs.length) (h1 : gs[i] ≠ []) (h2 : Inc gs[i]) (h3 : ∀ p ∈ gs[i], personB p = true ∧ ¬ SeenP gs i [] p) : FineG gs (i + 1) := by
 refine ⟨fun j hj hji => ?_, fun j hj hji => ?_, fun j hj hji p hp => ?_, fun j hj hji p hp j' hj' hjj => ?_⟩
 ·by_cases e : j = i
  ·subst e; exact h1
  ·exact h.ne j hj (by omega)
 ·by_cases e : j = i
  ·subst e; exact h2
  ·exact h.inc j hj (by omega)
 ·by_cases e : j = i
  ·subst e; exact (h3 p hp).1
  ·exact h.per j hj (by omega) p hp
 ·by_cases e : j = i
  ·subst e; exact fun hm => (h3 p hp).2 (.inl ⟨j', hj', hjj, hm⟩)
  ·exact h.apart j hj (by omega) p hp j' hj' hjj
theorem FineG.grp {gs : List (List Int)} {i : Nat} (h : FineG gs i) {j : Nat} (hj : j < gs.length) (hji : j < i) {p : Int} (hp : p ∈ gs[j]) : grpOf gs p = j := by
 refine grpOf_here hj (List.contains_iff_mem.2 hp) fun j' hj' hjj => ?_
 rw [← Bool.not_eq_true, List.contains_iff_mem]
 exact h.apart j hj hji p hp j' hj' hjj
theorem FineG.valid {gs : List (List Int)} (h : FineG gs gs.length) (hl : gs.length ≤ 512) : ValidG gs :=
 ⟨fun i hi => ⟨h.ne i hi hi, h.inc i hi hi, fun p hp => ⟨h.per i hi hi p hp, h.grp hi hi hp⟩⟩, hl⟩
theorem ValidG.seen {gs : List (List Int)} (h : ValidG gs) {i : Nat} (hi : i < gs.length) {p : Int} (hp : p ∈ gs[i]) {j : Nat} (hj : j < gs.length) (hji : j < i) : p ∉ gs[j] := fun hm => by
 have h1 := ((h.all i hi).mem p hp).2
 have h2 := ((h.all j hj).mem p hm).2
 omega
def seenMap (f : Int → Option Value) (S : Int → Prop) : Prop := ∀ p, (f p = some (.bool true) ∧ S p) ∨ (f p = none ∧ ¬ S p)
theorem seenMap.put {f : Int → Option Value} {S : Int → Prop} (h : seenMap f S) (q : Int) : seenMap (fun k' => if k' = q then some (.bool true) else f k') (fun p => p = q ∨ S p) := fun p => by
 by_cases e : p = q
 ·subst e; exact .inl ⟨if_pos rfl, .inl rfl⟩
 ·rcases h p with ⟨h1, h2⟩ | ⟨h1, h2⟩
  ·exact .inl ⟨by simp only [if_neg e]; exact h1, .inr h2⟩
  ·exact .inr ⟨by simp only [if_neg e]; exact h1, fun hh => hh.elim e h2⟩
theorem seenMap.congr {f : Int → Option Value} {S S' : Int → Prop} (h : seenMap f S) (hS : ∀ p, S p ↔ S' p) : seenMap f S' := fun p => (h p).imp (fun ⟨a, b⟩ => ⟨a, (hS p).1 b⟩) (fun ⟨a, b⟩ => ⟨a, fun hh => b ((hS p).2 hh)⟩)
set_option maxHeartbeats 1000000 in
theorem bValidGroups (gs : List (List Int)) (v : Value) (R : RO) (h : GV R v gs) : CallsR Tryz.prog 64 [v] R fun _ r => r = .bool (validG gs) := by
 obtain ⟨hxl, a, cap, rfl, hc, hg⟩ := h.form
 refine callsT mix Tryz.func64 comp64 (by simp [Tryz.ntmps64]) ?_; simp only [go_sem, ↓reduceIte, nQ1, nQ2, nQ3, nQ4, nQ5, nQ6, reduceCtorEq, vc64, rs64]
 have hbad : ¬ ValidG gs → Value.bool false = Value.bool (validG gs) := fun hn => by rw [validG_false hn]
 refine vcLoop (Nat × List MapEntry × Nat) (fun x => [(11, .val (.int .i64 x.1)), (10, .val (.int .i64 gs.length)), (9, .val (.slice a gs.length cap)), (0, .val (.slice a gs.length cap)), (3, .mp 0)]) (fun x => [.mp x.2.1 x.2.2]) (fun x _ => x.1 ≤ gs.length ∧ FineG gs x.1 ∧ ∃ f, MapOf (Value.int .i64) x.2.1 f ∧ seenMap f (SeenP gs x.1 [])) (fun x => gs.length - x.1) (0, [], 0) ?_ ?_ ?_ ?_
 ·(try simp only [go_sem, ↓reduceIte, nQ1, nQ2, nQ3, nQ4, nQ5, nQ6, reduceCtorEq]) <;> (repeat' (first | rfl | trivial | constructor | (intro h; exact absurd rfl h)))
 ·try simp only [go_sem, ↓reduceIte, nQ1, nQ2, nQ3, nQ4, nQ5, nQ6, reduceCtorEq]
 ·refine ⟨Nat.zero_le _, ⟨fun j _ hj => absurd hj (by omega), fun j _ hj => absurd hj (by omega), fun j _ hj => absurd hj (by omega), fun j _ hj => absurd hj (by omega)⟩, _, MapOf.nil _, fun p => .inr ⟨rfl, ?_⟩⟩
  rintro (⟨j, _, hj, _⟩ | hm)
  ·omega
  ·simp at hm
 rintro ⟨i, es, clock⟩ env R1 hle1 hE ⟨hi, hF, f, hmap, hseen⟩
 (simp only [go_sem] at hE; obtain ⟨e11, e10, e9, e0, e3⟩ := hE; simp only [go_sem, ↓reduceIte, nQ1, nQ2, nQ3, nQ4, nQ5, nQ6, reduceCtorEq, e11, e10, e9, e0, e3]; dsimp only at *)
 refine ⟨fun hlt => ?_, fun hge => ?_⟩
 ·have hlt' : i < gs.length := by omega
  obtain ⟨ad, u, had, hR, hu⟩ := hg i hlt'
  obtain ⟨hgl, b, bcap, rfl, hbc, hgb⟩ := hu.form
  refine ⟨by omega, vat ad had ?_⟩
  try simp only [go_sem, ↓reduceIte, nQ1, nQ2, nQ3, nQ4, nQ5, nQ6, reduceCtorEq]
  refine vload _ (hle1 _ _ hR) ?_
  simp only [go_sem, ↓reduceIte, nQ1, nQ2, nQ3, nQ4, nQ5, nQ6, reduceCtorEq, e11, e10, e9, e0, e3]
  have hbi : ¬ OkG gs i gs[i] → Value.bool false = Value.bool (validG gs) := fun hn => hbad fun hV => hn (hV.all i hlt')
  refine vcLoop (Nat × List MapEntry × Nat) (fun x => [(17, .val (.int .i64 x.1)), (16, .val (.int .i64 gs[i].length)), (15, .val (.slice b gs[i].length bcap)), (5, .val (.slice b gs[i].length bcap)), (11, .val (.int .i64 i)), (10, .val (.int .i64 gs.length)), (9, .val (.slice a gs.length cap)), (0, .val (.slice a gs.length cap)), (3, .mp 0)]) (fun x => [.mp x.2.1 x.2.2])
   (fun x _ => x.1 ≤ gs[i].length ∧ Inc (gs[i].take x.1) ∧ (∀ p ∈ gs[i].take x.1, personB p = true ∧ ¬ SeenP gs i [] p) ∧ ∃ f, MapOf (Value.int .i64) x.2.1 f ∧ seenMap f (SeenP gs i (gs[i].take x.1))) (fun x => gs[i].length - x.1) (0, es, clock) ?_ ?_ ?_ ?_
  ·(try simp only [go_sem, ↓reduceIte, nQ1, nQ2, nQ3, nQ4, nQ5, nQ6, reduceCtorEq]) <;> (repeat' (first | rfl | trivial | constructor | (intro h; exact absurd rfl h)))
  ·try simp only [go_sem, ↓reduceIte, nQ1, nQ2, nQ3, nQ4, nQ5, nQ6, reduceCtorEq]
  ·exact ⟨Nat.zero_le _, by simp [Inc], by simp, f, hmap, by simpa using hseen⟩
  rintro ⟨k, es2, clock2⟩ env R2 hle2 hE ⟨hk, hinc, hmem, f2, hmap2, hseen2⟩
  (simp only [go_sem] at hE; obtain ⟨e17, e16, e15, e5, e11', e10', e9', e0', e3'⟩ := hE; simp only [go_sem, ↓reduceIte, nQ1, nQ2, nQ3, nQ4, nQ5, nQ6, reduceCtorEq, e17, e16, e15, e5, e11', e10', e9', e0', e3']; dsimp only at *)
  refine ⟨fun hlt2 => ?_, fun hge2 => ?_⟩
  ·have hlt3 : k < gs[i].length := by omega
   obtain ⟨ad2, had2, hR2⟩ := hgb k hlt3
   have hle2' := RO.le_trans hle1 hle2
   have hin : gs[i][k] ∈ gs[i] := List.getElem_mem hlt3
   refine ⟨by omega, vat ad2 had2 ?_⟩
   try simp only [go_sem, ↓reduceIte, nQ1, nQ2, nQ3, nQ4, nQ5, nQ6, reduceCtorEq]
   refine vload _ (hle2' _ _ hR2) ?_
   simp only [go_sem, ↓reduceIte, nQ1, nQ2, nQ3, nQ4, nQ5, nQ6, reduceCtorEq, e17, e16, e15, e5, e11', e10', e9', e0', e3']
   refine vcall (bPerson gs[i][k] R2) ?_
   rintro R3 r hle3 rfl
   simp only [go_sem, ↓reduceIte, nQ1, nQ2, nQ3, nQ4, nQ5, nQ6, reduceCtorEq, e17, e16, e15, e5, e11', e10', e9', e0', e3']
   obtain ⟨r, g1, g2⟩ := MapOf.get none (Value.int .i64) mEq_int hmap2 gs[i][k]
   refine ⟨fun hp => vmget es2 clock2 r (by rw [mEq_int]; simp) rfl g1 ?_, fun hp => hbi fun hO => by have := (hO.mem _ hin).1; rw [hp] at this; cases this⟩
   obtain ⟨sb, hres, hsb⟩ : ∃ sb : Bool, mres (.bool false) false r = .bool sb ∧ (sb = true ↔ SeenP gs i (gs[i].take k) gs[i][k]) := by
    rcases hseen2 gs[i][k] with ⟨h1, h2⟩ | ⟨h1, h2⟩
    ·rw [h1] at g2
     cases r with
     | none => simp at g2
     | some r => simp only [Option.map_some, Option.some.injEq] at g2; exact ⟨true, by simp [mres, g2], by simp [h2]⟩
    ·rw [h1] at g2
     cases r with
     | none => exact ⟨false, by simp [mres], by simp [h2]⟩
     | some r => simp at g2
   rw [hres]
   simp only [go_sem, ↓reduceIte, nQ1, nQ2, nQ3, nQ4, nQ5, nQ6, reduceCtorEq, e17, e16, e15, e5, e11', e10', e9', e0', e3']
   have hseenV : ValidG gs → SeenP gs i (gs[i].take k) gs[i][k] → False := fun hV hS => by
    rcases hS with ⟨j, hj, hji, hm⟩ | hm
    ·exact hV.seen hlt' hin hj hji hm
    ·obtain ⟨q, hq, e⟩ := List.mem_take_iff_getElem.1 hm
     have := (hV.all i hlt').inc.get_lt (show q < k by omega) hlt3
     omega
   have hfin : (∀ x ∈ gs[i].take k, x < gs[i][k]) → sb = false → (Inc (gs[i].take (k + 1)) ∧ (∀ p ∈ gs[i].take (k + 1), personB p = true ∧ ¬ SeenP gs i [] p)) ∧ ∃ r es' clock', mfind none (Value.int .i64 gs[i][k]) es2 0 = some r ∧ mset (Value.int .i64 gs[i][k]) (.bool true) es2 clock2 r = .mp es' clock' ∧ ∃ f, MapOf (Value.int .i64) es' f ∧ seenMap f (SeenP gs i (gs[i].take (k + 1))) := fun h2 hs => by
    have hns : ¬ SeenP gs i (gs[i].take k) gs[i][k] := fun h => by rw [← hsb, hs] at h; cases h
    obtain ⟨r', es', clock', q1, q2, q3⟩ := MapOf.put none (Value.int .i64) mEq_int hmap2 gs[i][k] (.bool true) clock2
    rw [List.take_succ_eq_append_getElem hlt3]
    refine ⟨⟨List.pairwise_append.2 ⟨hinc, List.pairwise_singleton _ _, fun x hx y hy => ?_⟩, fun p hp' => ?_⟩, r', es', clock', q1, q2, _, q3, (hseen2.put gs[i][k]).congr fun p => ?_⟩
    ·simp only [List.mem_cons, List.not_mem_nil, or_false] at hy
     subst hy; exact h2 x hx
    ·rcases List.mem_append.1 hp' with hp' | hp'
     ·exact hmem p hp'
     ·simp only [List.mem_cons, List.not_mem_nil, or_false] at hp'
      subst hp'; exact ⟨hp, fun hS => hns (hS.imp id fun h => by simp at h)⟩
    ·unfold SeenP
     rw [List.mem_append, List.mem_singleton]
     exact ⟨fun h => h.elim (fun e => .inr (.inr e)) fun h => h.imp id .inl, fun h => h.elim (fun h => .inr (.inl h)) fun h => h.elim (fun h => .inr (.inr h)) .inl⟩
   refine ⟨fun hs0 => ⟨fun hk0 => ?_, fun hk0 => ?_⟩, fun hs1 => hbad fun hV => hseenV hV (hsb.1 hs1)⟩
   ·obtain ⟨ad3, had3, hR3⟩ := hgb (k - 1) (by omega)
    refine ⟨_, W.in64 (by omega), by omega, by omega, ?_⟩
    rw [show ((k : Int) - 1).toNat = k - 1 by omega]
    refine vat ad3 had3 ?_
    try simp only [go_sem, ↓reduceIte, nQ1, nQ2, nQ3, nQ4, nQ5, nQ6, reduceCtorEq]
    refine vload _ (hle3 _ _ (hle2' _ _ hR3)) ?_
    simp only [go_sem, ↓reduceIte, nQ1, nQ2, nQ3, nQ4, nQ5, nQ6, reduceCtorEq, e17, e16, e15, e5, e11', e10', e9', e0', e3']
    refine ⟨fun hge4 => hbi fun hO => ?_, fun hlt4 => ?_⟩
    ·have := hO.inc.get_lt (show k - 1 < k by omega) hlt3
     omega
    ·obtain ⟨⟨f1, f2⟩, r', es', clock', q1, q2, q3⟩ := hfin (fun x hx => by
      obtain ⟨j, hj, rfl⟩ := List.mem_take_iff_getElem.1 hx
      by_cases hjk : j = k - 1
      ·subst hjk; omega
      ·have h7 := List.pairwise_iff_getElem.1 hinc j (k - 1) (by rw [List.length_take]; omega) (by rw [List.length_take]; omega) (by omega)
       rw [List.getElem_take, List.getElem_take] at h7
       omega) hs0
     refine ⟨by rw [mEq_int]; simp, vmput es2 clock2 r' rfl q1 ?_⟩
     rw [q2]
     simp only [go_sem, ↓reduceIte, nQ1, nQ2, nQ3, nQ4, nQ5, nQ6, reduceCtorEq, e17, e16, e15, e5, e11', e10', e9', e0', e3']
     exact ⟨_, W.in64 (by omega), (k + 1, es', clock'), by show _ - (k + 1) < _ - k; omega, ⟨rfl, rfl⟩, by show k + 1 ≤ _; omega, f1, f2, q3⟩
   ·obtain ⟨⟨f1, f2⟩, r', es', clock', q1, q2, q3⟩ := hfin (fun x hx => by
     rw [show k = 0 by omega] at hx
     simp at hx) hs0
    refine ⟨by rw [mEq_int]; simp, vmput es2 clock2 r' rfl q1 ?_⟩
    rw [q2]
    simp only [go_sem, ↓reduceIte, nQ1, nQ2, nQ3, nQ4, nQ5, nQ6, reduceCtorEq, e17, e16, e15, e5, e11', e10', e9', e0', e3']
    exact ⟨_, W.in64 (by omega), (k + 1, es', clock'), by show _ - (k + 1) < _ - k; omega, ⟨rfl, rfl⟩, by show k + 1 ≤ _; omega, f1, f2, q3⟩
  ·obtain rfl : k = gs[i].length := by omega
   rw [List.take_length] at hinc hmem hseen2
   refine ⟨fun h0 => hbi fun hO => hO.ne (List.eq_nil_of_length_eq_zero (by omega)), fun h0 => ⟨_, W.in64 (by omega), (i + 1, es2, clock2), by show _ - (i + 1) < _ - i; omega, ⟨rfl, rfl⟩, by show i + 1 ≤ _; omega, hF.step hlt' (fun e => h0 (by rw [e]; rfl)) hinc hmem, f2, hmap2, hseen2.congr fun p => ?_⟩⟩
   unfold SeenP
   constructor
   ·rintro (⟨j, hj, hji, hm⟩ | hm)
    ·exact .inl ⟨j, hj, by omega, hm⟩
    ·exact .inl ⟨i, hlt', by omega, hm⟩
   ·rintro (⟨j, hj, hji, hm⟩ | hm)
    ·by_cases e : j = i
     ·subst e; exact .inr hm
     ·exact .inl ⟨j, hj, by omega, hm⟩
    ·simp at hm
 ·obtain rfl : i = gs.length := by omega
  congr 1
  rw [Bool.eq_iff_iff, decide_eq_true_eq, validG_iff]
  exact ⟨fun h => hF.valid (by omega), fun h => by have := h.len; omega⟩
end Go.Proofs.YtdglpgepgmdbdaaGreatDoor
/- Plain lemmas of our own, no statement of the seat: budget.Valid, budget.Group. -/
namespace Go.Proofs.YtdglpgepgmdbdaaGreatDoor
set_option linter.unusedSectionVars false
variable [Go.Proofs.YtdglpgepgmdbdaaGreatDoor.Vc.Drew]
set_option linter.unusedSimpArgs false
set_option linter.unusedVariables false
open Go.Proofs.YtdglpgepgmdbdaaGreatDoor.Vc
def orI : List Int → Int
 | [] => 0
 | x :: r => if x = 0 then orI r else x
theorem eOr (xs : List Int) (v : Value) (R : RO) (h : Ints R v xs) (hl : xs.length ≤ 1099511627776) : CallsR Tryz.prog 74 [v] R fun _ r => r = .int .i64 (orI xs) := by
 obtain ⟨a, cap, rfl, hc, hf⟩ := h.form
 refine callsT mix Tryz.func74 comp74 (by simp [Tryz.ntmps74]) ?_; simp only [go_sem, ↓reduceIte, nQ1, nQ2, nQ3, nQ4, nQ5, nQ6, reduceCtorEq, vc74, rs74]
 refine vcLoop Nat (fun i => [(8, .val (.int .i64 i)), (6, .val (.slice a xs.length cap)), (7, .val (.int .i64 xs.length)), (3, .val (.int .i64 0))]) (fun _ => []) (fun i _ => i ≤ xs.length ∧ orI xs = orI (xs.drop i)) (fun i => xs.length - i) 0 ?_ rfl ?_ ?_
 ·(try simp only [go_sem, ↓reduceIte, nQ1, nQ2, nQ3, nQ4, nQ5, nQ6, reduceCtorEq]) <;> (repeat' (first | rfl | trivial | constructor | (intro h; exact absurd rfl h)))
 ·exact ⟨Nat.zero_le _, by simp⟩
 rintro i env R1 hle hE ⟨hi, hp⟩
 (simp only [go_sem] at hE; obtain ⟨e8, e6, e7, e3⟩ := hE; simp only [go_sem, ↓reduceIte, nQ1, nQ2, nQ3, nQ4, nQ5, nQ6, reduceCtorEq, e8, e6, e7, e3]; dsimp only at *)
 refine ⟨fun hlt => ⟨hlt, ?_⟩, fun hge => ?_⟩
 ·have hlt' : i < xs.length := by omega
  obtain ⟨ad, had, hR⟩ := hf i hlt'
  refine vat ad had ?_
  try simp only [go_sem, ↓reduceIte, nQ1, nQ2, nQ3, nQ4, nQ5, nQ6, reduceCtorEq]
  refine vload _ (hle _ _ hR) ?_
  simp only [go_sem, ↓reduceIte, nQ1, nQ2, nQ3, nQ4, nQ5, nQ6, reduceCtorEq, e8, e6, e7, e3]
  rw [List.drop_eq_getElem_cons hlt'] at hp
  refine ⟨fun hne => ?_, fun heq => ?_⟩
  ·rw [hp, orI, if_neg hne]
  ·refine ⟨_, W.in64 (by omega), i + 1, by omega, by constructor, by omega, ?_⟩
   rw [hp, orI, if_pos heq]
 ·obtain rfl : i = xs.length := by omega
  rw [hp, List.drop_length]; rfl
abbrev accV (g k : Int) : Value := .agg #[.int .i64 g, .int .i64 k]
def cmpK (g k g' k' : Int) : Int := if cmpI g g' = 0 then cmpI k k' else cmpI g g'
theorem bCompareA (g k g' k' : Int) (R : RO) : CallsR Tryz.prog 48 [accV g k, accV g' k'] R fun _ v => v = .int .i64 (cmpK g k g' k') := by
 refine callsT mix Tryz.func48 comp48 (by simp [Tryz.ntmps48]) ?_; simp only [go_sem, ↓reduceIte, nQ1, nQ2, nQ3, nQ4, nQ5, nQ6, reduceCtorEq, vc48, rs48]
 refine vcall (bCompare g g' R) ?_
 rintro R1 v h1 rfl
 try simp only [go_sem, ↓reduceIte, nQ1, nQ2, nQ3, nQ4, nQ5, nQ6, reduceCtorEq]
 refine vcall (bCompare k k' R1) ?_
 rintro R2 v h2 rfl
 try simp only [go_sem, ↓reduceIte, nQ1, nQ2, nQ3, nQ4, nQ5, nQ6, reduceCtorEq]
 refine vfreeze ?_
 try simp only [go_sem, ↓reduceIte, nQ1, nQ2, nQ3, nQ4, nQ5, nQ6, reduceCtorEq]
 intro bb cap R3 hle hrow hcap hfr
 have hI : Ints R3 (.slice (some ⟨bb, 0, none⟩) 2 cap) [cmpI g g', cmpI k k'] := RowIn.ints (xs := [cmpI g g', cmpI k k']) hrow (by simpa using hcap)
 refine vcall (eOr _ _ R3 hI (by simp)) ?_
 rintro R4 v h4 rfl
 try simp only [go_sem, ↓reduceIte, nQ1, nQ2, nQ3, nQ4, nQ5, nQ6, reduceCtorEq]
 unfold cmpK
 simp only [orI]
 by_cases h1 : cmpI g g' = 0
 ·by_cases h2 : cmpI k k' = 0 <;> simp [h1, h2]
 ·simp [h1]
theorem cmpK_neg (g k g' k' : Int) : cmpK g k g' k' < 0 ↔ g < g' ∨ (g = g' ∧ k < k') := by
 unfold cmpK cmpI
 split <;> split <;> (repeat' split) <;> omega
/-! ### The sizes of the cells: a variable of the package -/
def SzR (R : RO) : Prop := ∀ i, i < 5 → R ⟨0, i, none⟩ (.int .i64 ([0, 1440, 30, 30, 1].getD i 0))
theorem SzR.mono {R R' : RO} (h : SzR R) (hle : RO.le R R') : SzR R' := fun i hi => hle _ _ (h i hi)
theorem SzR.get {R : RO} (h : SzR R) {g : Int} (hg : 1 ≤ g ∧ g ≤ 4) : R ⟨0, g.toNat, none⟩ (.int .i64 (sizeI g)) := by
 have h1 := h g.toNat (by omega)
 have h2 : g = 1 ∨ g = 2 ∨ g = 3 ∨ g = 4 := by omega
 rcases h2 with rfl | rfl | rfl | rfl <;> exact h1
theorem bValid1 (s : Sp) (x : Se) (u : Value) (ad : Addr) (R : RO) (hz : SzR R) (hg : 1 ≤ x.grain ∧ x.grain ≤ 4) (hx : R (ad.add 1) (.int .i64 x.grain)) : CallsR Tryz.prog 67 [.agg s.cells.toArray, .pointer (some ad)] R fun _ r => r = .bool (!alignedB s (sizeI x.grain)) := by
 have hA := bAligned s (sizeI x.grain) (sizeI_pos _) R
 simp only [Sp.cells] at hA ⊢
 refine callsT mix Tryz.func67 comp67 (by simp [Tryz.ntmps67]) ?_; simp only [go_sem, ↓reduceIte, nQ1, nQ2, nQ3, nQ4, nQ5, nQ6, reduceCtorEq, vc67, rs67]
 refine vload _ hx ?_
 try simp only [go_sem, ↓reduceIte, nQ1, nQ2, nQ3, nQ4, nQ5, nQ6, reduceCtorEq]
 refine ⟨by omega, by omega, vload _ (hz.get hg) ?_⟩
 try simp only [go_sem, ↓reduceIte, nQ1, nQ2, nQ3, nQ4, nQ5, nQ6, reduceCtorEq]
 refine vcall hA ?_
 rintro R1 r hle1 rfl
 try simp only [go_sem, ↓reduceIte, nQ1, nQ2, nQ3, nQ4, nQ5, nQ6, reduceCtorEq]
theorem bContainsS (f : FuncId) (caps : List Value) (hb : hasBody Tryz.prog f = true) (p : Sp → Bool) (l : List Sp) (v : Value) (R : RO) (h : SpV R v l)
  (hf : ∀ (s : Sp) (R' : RO), RO.le R R' → CallsR Tryz.prog f ([.agg s.cells.toArray] ++ caps) R' fun _ u => u = .bool (p s)) : CallsR Tryz.prog 66 [v, .func (.func f) #[] caps.toArray] R fun _ r => r = .bool (l.any p) := by
 have hI := bIndexFunc f caps hb p l v R h hf
 refine callsT mix Tryz.func66 comp66 (by simp [Tryz.ntmps66]) ?_; simp only [go_sem, ↓reduceIte, nQ1, nQ2, nQ3, nQ4, nQ5, nQ6, reduceCtorEq, vc66, rs66]
 refine vcall hI ?_
 rintro R1 u h1 ⟨k, rfl, hk⟩
 try simp only [go_sem, ↓reduceIte, nQ1, nQ2, nQ3, nQ4, nQ5, nQ6, reduceCtorEq]
 refine congrArg Value.bool ?_
 rw [Bool.eq_iff_iff, decide_eq_true_eq]
 exact hk
theorem grpOf_neg {gs : List (List Int)} {p : Int} : 0 ≤ grpOf gs p ∨ grpOf gs p = -1 - p := by
 unfold grpOf
 split
 ·exact .inl (by omega)
 ·exact .inr rfl
set_option maxHeartbeats 2000000 in
set_option maxRecDepth 4000 in
theorem bValid (b : Bu) (hr : RawB b) (v : Value) (R : RO) (hz : SzR R) (h : BuV R v b) : CallsR Tryz.prog 32 [v] R fun _ r => r = .bool (okB b) := by
 obtain ⟨gv, sv, rfl, hg, hs⟩ := h
 have hG := fun R' hle => bValidGroups b.groups gv R' (GV.mono (R' := R') hg hle)
 have hO := fun (p : Int) hp R' hle => bGroupOf b.groups p hp gv R' (GV.mono (R' := R') hg hle)
 obtain ⟨hgl, ga, gcap, rfl, hgc, -⟩ := hg.form
 obtain ⟨hsl, a, cap, rfl, hc, hf⟩ := hs.form
 have hbad : ¬ OkB b → Value.bool false = Value.bool (okB b) := fun hn => by rw [okB_false hn]
 refine callsT mix Tryz.func32 comp32 (by simp [Tryz.ntmps32]) ?_; simp only [go_sem, ↓reduceIte, nQ1, nQ2, nQ3, nQ4, nQ5, nQ6, reduceCtorEq, vc32, rs32]
 refine ⟨fun hl1 => ⟨fun hl2 => ?_, fun hl2 => hbad fun hO => by have := hO.lim; omega⟩, fun hl1 => hbad fun hO => by have := hO.lim; omega⟩
 refine vcall (hG R (RO.le_refl _)) ?_
 rintro R1 r hle1 rfl
 try simp only [go_sem, ↓reduceIte, nQ1, nQ2, nQ3, nQ4, nQ5, nQ6, reduceCtorEq]
 refine ⟨fun hV => hbad fun hO => (by rw [validG_iff.2 hO.groups] at hV; cases hV), fun hV => ?_⟩
 refine vcLoop Nat (fun i => [(22, .val (.int .i64 i)), (21, .val (.int .i64 b.spent.length)), (20, .val (.slice a b.spent.length cap)), (1, .loc 0 0)]) (fun _ => [.box [.val (.int .i64 b.limit), .val (.slice ga b.groups.length gcap), .val (.slice a b.spent.length cap)]]) (fun i _ => i ≤ b.spent.length ∧ (∀ s ∈ b.spent.take i, OkS b.groups s) ∧ (b.spent.take i).Pairwise keyLt) (fun i => b.spent.length - i) 0 ?_ ?_ ?_ ?_
 ·(try simp only [go_sem, ↓reduceIte, nQ1, nQ2, nQ3, nQ4, nQ5, nQ6, reduceCtorEq]) <;> (repeat' (first | rfl | trivial | constructor | (intro h; exact absurd rfl h)))
 ·try simp only [go_sem, ↓reduceIte, nQ1, nQ2, nQ3, nQ4, nQ5, nQ6, reduceCtorEq]
 ·exact ⟨Nat.zero_le _, by simp, by simp⟩
 rintro i env R2 hle2 hE ⟨hi, hok, hord⟩
 (simp only [go_sem] at hE; obtain ⟨e22, e21, e20, e1⟩ := hE; simp only [go_sem, ↓reduceIte, nQ1, nQ2, nQ3, nQ4, nQ5, nQ6, reduceCtorEq, e22, e21, e20, e1]; dsimp only at *)
 refine ⟨fun hlt => ?_, fun hge => ?_⟩
 ·have hlt' : i < b.spent.length := by omega
  obtain ⟨ad, u, had, hR, hu⟩ := hf i hlt'
  obtain ⟨ua, ucap, rfl, -, -⟩ := hu.form
  have hle12 := RO.le_trans hle1 hle2
  have hmem : b.spent[i] ∈ b.spent := List.getElem_mem hlt'
  have hi64 := (hr.spent _ hmem).group
  unfold I64 at hi64
  have hbi : ¬ OkS b.groups b.spent[i] → Value.bool false = Value.bool (okB b) := fun hn => hbad fun hO => hn (hO.each _ hmem)
  refine ⟨by omega, vat ad had ?_⟩
  try simp only [go_sem, ↓reduceIte, nQ1, nQ2, nQ3, nQ4, nQ5, nQ6, reduceCtorEq]
  refine vloadn (seCells (b.spent[i], _)) rfl (fun j w hj => hle12 _ _ (hR j w hj)) ?_
  simp only [go_sem, ↓reduceIte, nQ1, nQ2, nQ3, nQ4, nQ5, nQ6, reduceCtorEq, seCells, e22, e21, e20, e1]
  refine vcall (bGrain b.spent[i].grain R2) ?_
  rintro R3 r hle3 rfl
  simp only [go_sem, ↓reduceIte, nQ1, nQ2, nQ3, nQ4, nQ5, nQ6, reduceCtorEq, e22, e21, e20, e1]
  have hbGr : ¬ (1 ≤ b.spent[i].grain ∧ b.spent[i].grain ≤ 4) → Value.bool false = Value.bool (okB b) := fun hn => hbi fun hO => hn hO.grain
  have hgi : grainB b.spent[i].grain = true ↔ (1 ≤ b.spent[i].grain ∧ b.spent[i].grain ≤ 4) := by unfold grainB; simp
  refine ⟨fun q1 => ⟨fun q2 => ⟨fun q3 => ?_, fun q3 => hbi fun hO => hO.ne (List.eq_nil_of_length_eq_zero (by omega))⟩, fun q2 => hbi fun hO => by have := hO.group; omega⟩, fun q1 => hbGr fun h => by rw [hgi.2 h] at q1; cases q1⟩
  have q1 := hgi.1 q1
  have hle13 := RO.le_trans hle12 hle3
  refine vcall (bValidS b.spent[i].cells _ R3 (hu.mono hle13)) ?_
  rintro R4 r hle4 rfl
  simp only [go_sem, ↓reduceIte, nQ1, nQ2, nQ3, nQ4, nQ5, nQ6, reduceCtorEq, e22, e21, e20, e1]
  have hle14 := RO.le_trans hle13 hle4
  refine ⟨fun q4 => hbi fun hO => (by rw [hO.nor] at q4; cases q4), fun q4 => ?_⟩
  refine ⟨fun q5 => ⟨_, W.in64 (by omega), ?_⟩, fun q5 => ?_⟩
  ·refine vcall (bPerson _ R4) ?_
   rintro R4' r hle4' rfl
   simp only [go_sem, ↓reduceIte, nQ1, nQ2, nQ3, nQ4, nQ5, nQ6, reduceCtorEq, e22, e21, e20, e1]
   have hpb : personB (-1 - b.spent[i].group) = true → -1000000 ≤ -1 - b.spent[i].group ∧ -1 - b.spent[i].group ≤ 1000000 := fun h => by
    unfold personB at h
    simp only [Bool.and_eq_true, decide_eq_true_eq] at h
    omega
   refine ⟨fun q6 => ⟨_, W.in64 (by omega), ?_⟩, fun q6 => hbi fun hO => by have := (hO.alone q5).1; rw [q6] at this; cases this⟩
   refine vcall (hO _ (hpb q6) R4' (RO.le_trans hle1 (RO.le_trans hle2 (RO.le_trans hle3 (RO.le_trans hle4 hle4'))))) ?_
   rintro R4'' r hle4'' rfl
   simp only [go_sem, ↓reduceIte, nQ1, nQ2, nQ3, nQ4, nQ5, nQ6, reduceCtorEq, e22, e21, e20, e1]
   have hgn := grpOf_neg (gs := b.groups) (p := -1 - b.spent[i].group)
   refine ⟨fun q7 => hbi fun hO => by have := (hO.alone q5).2; omega, fun q7 => ?_⟩
   have HX := RO.le_trans hle14 (RO.le_trans hle4' hle4'')
   have HA : b.spent[i].group < 0 → personB (-1 - b.spent[i].group) = true ∧ grpOf b.groups (-1 - b.spent[i].group) = b.spent[i].group := fun _ => ⟨q6, by omega⟩
   refine vlend ?_
   intro β κ R5 hL
   have hbox := hL.2 1 _ rfl
   have hx : R5 ((⟨β 1, 0, none⟩ : Addr).add 1) (.int .i64 b.spent[i].grain) := by rw [Addr.add_lit]; exact hbox 1 _ rfl
   have hleL := RO.le_trans HX hL.1
   refine ⟨_, bContainsS 67 [.pointer (some ⟨β 1, 0, none⟩)] (by kernel_rfl) (fun c => !alignedB c (sizeI b.spent[i].grain)) b.spent[i].cells _ R5 (hu.mono hleL) (fun s R6 hle6 => bValid1 s b.spent[i] (.int .i64 0) ⟨β 1, 0, none⟩ R6 (hz.mono (RO.le_trans hleL hle6)) q1 (hle6 _ _ hx)), ?_⟩
   rintro R6 r R7 hle6 rfl hle7 _
   simp only [go_sem, ↓reduceIte, nQ1, nQ2, nQ3, nQ4, nQ5, nQ6, reduceCtorEq, e22, e21, e20, e1]
   refine ⟨fun hc => hbi fun hO => ?_, fun hc => ?_⟩
   ·have h1 := hO.ali
    rw [List.any_eq_true] at hc
    obtain ⟨c, hc1, hc2⟩ := hc
    rw [List.all_eq_true] at h1
    rw [h1 c hc1] at hc2
    cases hc2
   have hali : (b.spent[i].cells.all fun c => alignedB c (sizeI b.spent[i].grain)) = true := by
    rw [List.all_eq_true]
    intro c hc1
    rw [List.any_eq_false] at hc
    have := hc c hc1
    simpa using this
   have hs1 : OkS b.groups b.spent[i] := ⟨q1, fun e => q3 (by rw [e]; rfl), by omega, HA, q4, hali⟩
   have hstep : (0 < i → keyLt (b.spent[i - 1]'(by omega)) b.spent[i]) → (∀ s ∈ b.spent.take (i + 1), OkS b.groups s) ∧ (b.spent.take (i + 1)).Pairwise keyLt := fun hk => ⟨fun s hs => by
    rw [List.take_succ_eq_append_getElem hlt'] at hs
    rcases List.mem_append.1 hs with hs | hs
    ·exact hok s hs
    ·simp only [List.mem_cons, List.not_mem_nil, or_false] at hs
     subst hs; exact hs1, keys_take hlt' hord hk⟩
   refine ⟨fun hi0 => ?_, fun hi0 => ⟨_, W.in64 (by omega), i + 1, by omega, rfl, by omega, hstep fun h => by omega⟩⟩
   obtain ⟨ad2, u2, had2, hR2, hu2⟩ := hf (i - 1) (by omega)
   have hle17 := RO.le_trans HX hle7
   refine ⟨_, W.in64 (by omega), by omega, by omega, ?_⟩
   rw [show ((i : Int) - 1).toNat = i - 1 by omega]
   refine vat ad2 had2 ?_
   try simp only [go_sem, ↓reduceIte, nQ1, nQ2, nQ3, nQ4, nQ5, nQ6, reduceCtorEq]
   refine vload (.int .i64 (b.spent[i - 1]'(by omega)).group) (hle17 _ _ (hR2 0 _ rfl)) ?_
   simp only [go_sem, ↓reduceIte, nQ1, nQ2, nQ3, nQ4, nQ5, nQ6, reduceCtorEq, e22, e21, e20, e1]
   refine ⟨_, W.in64 (by omega), by omega, by omega, ?_⟩
   rw [show ((i : Int) - 1).toNat = i - 1 by omega]
   refine vat ad2 had2 ?_
   try simp only [go_sem, ↓reduceIte, nQ1, nQ2, nQ3, nQ4, nQ5, nQ6, reduceCtorEq]
   refine vload (.int .i64 (b.spent[i - 1]'(by omega)).grain) (hle17 _ _ (hR2 1 _ rfl)) ?_
   simp only [go_sem, ↓reduceIte, nQ1, nQ2, nQ3, nQ4, nQ5, nQ6, reduceCtorEq, e22, e21, e20, e1]
   refine vcall (bCompareA _ _ _ _ R7) ?_
   rintro R8 r hle8 rfl
   simp only [go_sem, ↓reduceIte, nQ1, nQ2, nQ3, nQ4, nQ5, nQ6, reduceCtorEq, e22, e21, e20, e1]
   have hcmp := cmpK_neg (b.spent[i - 1]'(by omega)).group (b.spent[i - 1]'(by omega)).grain b.spent[i].group b.spent[i].grain
   refine ⟨fun hge => hbad fun hO => ?_, fun hlt => ⟨_, W.in64 (by omega), i + 1, by omega, rfl, by omega, hstep fun h => ?_⟩⟩
   ·have := List.pairwise_iff_getElem.1 hO.ord (i - 1) i (by omega) hlt' (by omega)
    have := hcmp.2 this
    omega
   ·exact hcmp.1 (by omega)
  ·have HX := hle14
   have HA : b.spent[i].group < 0 → personB (-1 - b.spent[i].group) = true ∧ grpOf b.groups (-1 - b.spent[i].group) = b.spent[i].group := fun h => absurd h q5
   refine vlend ?_
   intro β κ R5 hL
   have hbox := hL.2 1 _ rfl
   have hx : R5 ((⟨β 1, 0, none⟩ : Addr).add 1) (.int .i64 b.spent[i].grain) := by rw [Addr.add_lit]; exact hbox 1 _ rfl
   have hleL := RO.le_trans HX hL.1
   refine ⟨_, bContainsS 67 [.pointer (some ⟨β 1, 0, none⟩)] (by kernel_rfl) (fun c => !alignedB c (sizeI b.spent[i].grain)) b.spent[i].cells _ R5 (hu.mono hleL) (fun s R6 hle6 => bValid1 s b.spent[i] (.int .i64 0) ⟨β 1, 0, none⟩ R6 (hz.mono (RO.le_trans hleL hle6)) q1 (hle6 _ _ hx)), ?_⟩
   rintro R6 r R7 hle6 rfl hle7 _
   simp only [go_sem, ↓reduceIte, nQ1, nQ2, nQ3, nQ4, nQ5, nQ6, reduceCtorEq, e22, e21, e20, e1]
   refine ⟨fun hc => hbi fun hO => ?_, fun hc => ?_⟩
   ·have h1 := hO.ali
    rw [List.any_eq_true] at hc
    obtain ⟨c, hc1, hc2⟩ := hc
    rw [List.all_eq_true] at h1
    rw [h1 c hc1] at hc2
    cases hc2
   have hali : (b.spent[i].cells.all fun c => alignedB c (sizeI b.spent[i].grain)) = true := by
    rw [List.all_eq_true]
    intro c hc1
    rw [List.any_eq_false] at hc
    have := hc c hc1
    simpa using this
   have hs1 : OkS b.groups b.spent[i] := ⟨q1, fun e => q3 (by rw [e]; rfl), by omega, HA, q4, hali⟩
   have hstep : (0 < i → keyLt (b.spent[i - 1]'(by omega)) b.spent[i]) → (∀ s ∈ b.spent.take (i + 1), OkS b.groups s) ∧ (b.spent.take (i + 1)).Pairwise keyLt := fun hk => ⟨fun s hs => by
    rw [List.take_succ_eq_append_getElem hlt'] at hs
    rcases List.mem_append.1 hs with hs | hs
    ·exact hok s hs
    ·simp only [List.mem_cons, List.not_mem_nil, or_false] at hs
     subst hs; exact hs1, keys_take hlt' hord hk⟩
   refine ⟨fun hi0 => ?_, fun hi0 => ⟨_, W.in64 (by omega), i + 1, by omega, rfl, by omega, hstep fun h => by omega⟩⟩
   obtain ⟨ad2, u2, had2, hR2, hu2⟩ := hf (i - 1) (by omega)
   have hle17 := RO.le_trans HX hle7
   refine ⟨_, W.in64 (by omega), by omega, by omega, ?_⟩
   rw [show ((i : Int) - 1).toNat = i - 1 by omega]
   refine vat ad2 had2 ?_
   try simp only [go_sem, ↓reduceIte, nQ1, nQ2, nQ3, nQ4, nQ5, nQ6, reduceCtorEq]
   refine vload (.int .i64 (b.spent[i - 1]'(by omega)).group) (hle17 _ _ (hR2 0 _ rfl)) ?_
   simp only [go_sem, ↓reduceIte, nQ1, nQ2, nQ3, nQ4, nQ5, nQ6, reduceCtorEq, e22, e21, e20, e1]
   refine ⟨_, W.in64 (by omega), by omega, by omega, ?_⟩
   rw [show ((i : Int) - 1).toNat = i - 1 by omega]
   refine vat ad2 had2 ?_
   try simp only [go_sem, ↓reduceIte, nQ1, nQ2, nQ3, nQ4, nQ5, nQ6, reduceCtorEq]
   refine vload (.int .i64 (b.spent[i - 1]'(by omega)).grain) (hle17 _ _ (hR2 1 _ rfl)) ?_
   simp only [go_sem, ↓reduceIte, nQ1, nQ2, nQ3, nQ4, nQ5, nQ6, reduceCtorEq, e22, e21, e20, e1]
   refine vcall (bCompareA _ _ _ _ R7) ?_
   rintro R8 r hle8 rfl
   simp only [go_sem, ↓reduceIte, nQ1, nQ2, nQ3, nQ4, nQ5, nQ6, reduceCtorEq, e22, e21, e20, e1]
   have hcmp := cmpK_neg (b.spent[i - 1]'(by omega)).group (b.spent[i - 1]'(by omega)).grain b.spent[i].group b.spent[i].grain
   refine ⟨fun hge => hbad fun hO => ?_, fun hlt => ⟨_, W.in64 (by omega), i + 1, by omega, rfl, by omega, hstep fun h => ?_⟩⟩
   ·have := List.pairwise_iff_getElem.1 hO.ord (i - 1) i (by omega) hlt' (by omega)
    have := hcmp.2 this
    omega
   ·exact hcmp.1 (by omega)
 ·obtain rfl : i = b.spent.length := by omega
  rw [List.take_length] at hok hord
  congr 1
  symm
  rw [okB_iff]
  exact ⟨by omega, validG_iff.1 hV, hok, hord⟩
end Go.Proofs.YtdglpgepgmdbdaaGreatDoor
namespace Go.Proofs.YtdglpgepgmdbdaaGreatDoor.Vc
set_option linter.unusedSectionVars false
variable [Go.Proofs.YtdglpgepgmdbdaaGreatDoor.Vc.Drew]
set_option linter.unusedSimpArgs false
set_option linter.unusedVariables false
open Go.RowKit Go.Shelf Go.Sort
theorem putCells_toList {cs' : List Value} {arr : Array Value} (h : cs'.length ≤ arr.size) : cs' <+: (putCells id 0 cs'.toArray arr).toList := by
 rw [List.prefix_iff_eq_take]
 apply List.ext_getElem?
 intro i
 rw [List.getElem?_take]
 by_cases hi : i < cs'.length
 ·rw [if_pos hi, Array.getElem?_toList]
  simp [putCells, hi, show i < arr.size by omega]
 ·rw [if_neg hi, List.getElem?_eq_none (by omega)]
theorem flatK_toList {α : Type} [Inhabited α] (enc : α → List Value) (k : Nat) (hk : ∀ x, (enc x).length = k) (d : Array α) : flatK enc k d = ((d.toList.map enc).flatten).toArray := by
 have hl : ∀ us ∈ d.toList.map enc, us.length = k := fun us hus => by
  obtain ⟨x, _, rfl⟩ := List.mem_map.1 hus
  exact hk x
 apply Array.ext_getElem?
 intro t
 by_cases ht : t < d.size * k
 ·have h1 : t < (flatK enc k d).size := by rw [size_flatK]; exact ht
  have hk0 : 0 < k := by
   rcases Nat.eq_zero_or_pos k with h | h
   ·subst h; simp at ht
   ·exact h
  have hq : t / k < d.size := (Nat.div_lt_iff_lt_mul hk0).2 ht
  rw [Array.getElem?_eq_getElem h1, ← getElem!_pos (flatK enc k d) t h1, get_flatK _ _ _ t ht, List.getElem?_toArray]
  have h2 := getElem?_flatten hl (t / k) (t % k) (enc d[t / k]) (by simp [hq]) (Nat.mod_lt _ hk0)
  rw [Nat.mul_comm, Nat.div_add_mod] at h2
  rw [h2, getElem!_pos d (t / k) hq]
  have h3 : t % k < (enc d[t / k]).length := by rw [hk]; exact Nat.mod_lt _ hk0
  rw [getElem!_pos (enc d[t / k]) (t % k) h3, List.getElem?_eq_getElem h3]
 ·rw [Array.getElem?_eq_none (by rw [size_flatK]; omega), List.getElem?_toArray, List.getElem?_eq_none (by rw [length_flattenK hl]; simp; omega)]
theorem rowS {P : Program} {f : FuncId} {vs : List Value} {n T sz : Nat} {cs : List Value} {R : RO} {Q : List Value → SV → Prop}
  (h : ∀ (w : World) (β κ : Nat → Nat) (arr : Array Value), w.heap[β 0]? = some (.cells arr T (0, 0)) → cs <+: arr.toList → κ 0 * sz = arr.size → κ 0 ≤ maxLen →
   Calls P f (Value.slice (some ⟨β 0, 0, none⟩) n (κ 0) :: vs).toArray w fun e w' => ∃ r cs' m os, e = .returned (den β κ r) ∧ SV.ok 1 r = true ∧ cs'.length = cs.length ∧ Q cs' r ∧ w' = grow (putRow id (Sort.ahead w m) (β 0) 0 cs'.toArray) os) :
  CallsS P f (.sl 0 n :: vs.map .val) [.row T sz cs] R fun R' bs r => R' = R ∧ ∃ cs', bs = [.row T sz cs'] ∧ cs'.length = cs.length ∧ Q cs' r := by
 intro w β κ hG
 obtain ⟨_, arr, hb, hp, hs, hcl, hm⟩ := hG.blk 0 _ rfl
 have hv : (vs.map SV.val).map (den β κ) = vs := by
  rw [List.map_map]
  conv => rhs; rw [← List.map_id vs]
  exact List.map_congr_left fun _ _ => rfl
 simp only [List.map_cons, hv, den]
 refine (h w β κ arr hb hp hs hm).mono ?_
 rintro e w' ⟨r, cs', m, os, rfl, hr, hl, hQ, rfl⟩
 have hlt : β 0 < w.heap.size := (Array.getElem?_eq_some_iff.1 hb).1
 have hb' : (grow (putRow id (Sort.ahead w m) (β 0) 0 cs'.toArray) os).heap[β 0]? = some (.cells (putCells id 0 cs'.toArray arr) T (0, 0)) := by
  rw [heap_grow_old _ _ (by simpa [putRow, mapBlock, Sort.ahead] using hlt)]
  simp [putRow, mapBlock, Sort.ahead, Array.getElem?_modify, hb, onCells]
 have ho : ∀ k, k < w.heap.size → k ≠ β 0 → (grow (putRow id (Sort.ahead w m) (β 0) 0 cs'.toArray) os).heap[k]? = w.heap[k]? := fun k hk hne => by
  rw [heap_grow_old _ _ (by simpa [putRow, mapBlock, Sort.ahead] using hk)]
  simp [putRow, mapBlock, Sort.ahead, Array.getElem?_modify, Ne.symm hne]
 have harr : cs'.length ≤ arr.size := by rw [hl, ← hs]; exact hcl
 refine ⟨β, κ, [.row T sz cs'], r, R, rfl, fun _ _ h => h, ⟨?_, ?_, ?_⟩, hr, by simp, by simp [Blk.noShr], fun _ _ => ⟨rfl, rfl⟩, ?_, fun a v h => .inl h, ⟨rfl, rfl, rfl, ?_, ?_, ?_⟩, rfl, cs', rfl, hl, hQ⟩
 ·intro j b hj
  cases j with
  | zero =>
   simp only [List.getElem?_cons_zero, Option.some.injEq] at hj
   subst hj
   exact ⟨trivial, _, hb', putCells_toList harr, by rw [hs]; simp [putCells], by rw [hl]; exact hcl, hm⟩
  | succ j => simp at hj
 ·intro i j b b' hi hj _ _ _
  have h1 := (List.getElem?_eq_some_iff.1 hi).1
  have h2 := (List.getElem?_eq_some_iff.1 hj).1
  simp only [List.length_cons, List.length_nil] at h1 h2
  omega
 ·intro a v ha
  obtain ⟨h1, h2⟩ := hG.ro a v ha
  have h3 := h2 0 _ rfl rfl
  refine ⟨?_, ?_⟩
  ·rw [World.cell?_of_block (ho a.block (World.block_lt_of_cell? w a h1) h3)]
   exact h1
  ·intro j b hj hb
   cases j with
   | zero => exact h3
   | succ j => simp at hj
 ·intro j b hj hb
  cases j with
  | zero => exact .inr ⟨0, _, rfl, rfl, rfl⟩
  | succ j => simp at hj
 ·simp [putRow, mapBlock, Sort.ahead]
 ·intro k hk hg
  refine ho k hk fun e => hg ⟨0, _, rfl, rfl, e⟩
 ·refine Nat.mul_le_mul_left _ ?_
  simp [grow, putRow, mapBlock, Sort.ahead]
variable {P : Program} {ρ : Ren} {α : Type} [Inhabited α]
theorem pairwise_sortedIn {lt : α → α → Bool} {d : Array α} (h : SortedIn lt 0 d.size d) : d.toList.Pairwise fun x y => lt y x = false := by
 rw [List.pairwise_iff_getElem]
 intro i j hi hj hij
 have := h i j (Nat.zero_le _) hij (by simpa using hj)
 rw [getElem!_pos d i (by simpa using hi), getElem!_pos d j (by simpa using hj)] at this
 simpa using this
theorem permIn_perm {d d' : Array α} (h : PermIn 0 d.size d d') : d'.toList.Perm d.toList := by
 have h3 := h.2.2
 have e1 : d.extract 0 d.size = d := by simp
 have e2 : d'.extract 0 d.size = d' := by rw [← h.1]; simp
 rw [e1, e2] at h3
 exact h3
theorem callsR_still {f : FuncId} {args : List Value} {r : Value} (h : ∀ w, Calls P f args.toArray w fun e w' => e = .returned r ∧ w' = w) (R : RO) : CallsR P f args R fun _ v => v = r := by
 intro w hR
 refine (h w).mono ?_
 rintro e w' ⟨rfl, rfl⟩
 exact ⟨_, R, rfl, fun _ _ h => h, fun a v ha => ⟨hR a v ha, .inl ha⟩, Ext.refl _, rfl⟩
theorem sortFuncNil (L : SlLaysF0.n6 P ρ) (fv : Value) (R : RO) : CallsR P (ρ.f 6) [.slice none 0 0, fv] R fun _ v => v = .tuple #[] :=
 callsR_still (fun w => AnyF.slices_SortFunc_none L none 0 fv w) R
end Go.Proofs.YtdglpgepgmdbdaaGreatDoor.Vc
namespace Go.Proofs.YtdglpgepgmdbdaaGreatDoor.Vc
set_option linter.unusedSectionVars false
variable [Go.Proofs.YtdglpgepgmdbdaaGreatDoor.Vc.Drew]
set_option linter.unusedSimpArgs false
set_option linter.unusedVariables false
theorem ext_grow {w w' : World} (h : @Ext ⟨1⟩ w w') : ∃ (q : Nat) (os : Array Obj), w' = Go.Sort.grow (w.drewN q) os := by
 refine ⟨w'.drawn - w.drawn, w'.heap.extract w.heap.size w'.heap.size, ?_⟩
 obtain ⟨heap, tape, drawn, os, output⟩ := w
 obtain ⟨heap', tape', drawn', os', output'⟩ := w'
 obtain ⟨h1, h2, h3, h4, h5, h6⟩ := h
 simp only at h1 h2 h3 h4 h5 h6
 replace h6 : 1 * drawn ≤ 1 * drawn' := h6
 subst h1 h2 h3
 have hd : drawn + (drawn' - drawn) = drawn' := by omega
 have hh : heap ++ heap'.extract heap.size heap'.size = heap' := by
  apply Array.ext_getElem?
  intro i
  rcases Nat.lt_or_ge i heap.size with hi | hi
  ·rw [Array.getElem?_append_left hi, h5 i hi]
  ·rw [Array.getElem?_append_right hi, Array.getElem?_extract]
   rcases Nat.lt_or_ge i heap'.size with hj | hj
   ·rw [if_pos (by omega)]
    congr 1; omega
   ·rw [if_neg (by omega), Array.getElem?_eq_none hj]
 simp only [Go.Sort.grow, Go.World.drewN, hd, hh]
end Go.Proofs.YtdglpgepgmdbdaaGreatDoor.Vc
namespace Go.Proofs.YtdglpgepgmdbdaaGreatDoor.Vc
set_option linter.unusedSectionVars false
variable [Go.Proofs.YtdglpgepgmdbdaaGreatDoor.Vc.Drew]
set_option linter.unusedSimpArgs false
set_option linter.unusedVariables false
open Go.RowKit Go.Shelf Go.Sort
variable {P : Program} {ρ : Ren} {α : Type} [Inhabited α]
theorem sortFuncS (L : SlLaysF0.n6 P ρ) (k : Nat) (aE : ∀ w, (isAgg (ρ.t 24)).run P w = .ok true w) (zE : ∀ w, (Go.sizeOf (ρ.t 24)).run P w = .ok k w) (enc : α → List Value) (hk : ∀ x, (enc x).length = k) (h1 : ∀ x, ∀ v ∈ enc x, v.oneCell' = true) (cf : α → α → Int) (hO : SWO (ltOf cf)) (g : Nat) (T : Nat)
  (eg : ∀ args w, (callFunc g args).run P w = .ok (.enter g args) w) (hg : ∀ x y, @CallsR ⟨1⟩ P g [.agg (enc x).toArray, .agg (enc y).toArray] (fun _ _ => False) fun _ v => v = .int .i64 (cf x y)) (xs : List α) (hl : xs.length < 4611686018427387904) (R : RO) :
  CallsS P (ρ.f 6) [.sl 0 xs.length, .val (.func (.func g) #[] #[])] [.row T k (xs.map enc).flatten] R fun R' bs r => R' = R ∧ ∃ ys : List α, ys.Perm xs ∧ (ys.Pairwise fun x y => ltOf cf y x = false) ∧ bs = [.row T k (ys.map enc).flatten] ∧ r = .val (.tuple #[]) := by
 have hfl : ∀ zs : List α, (zs.map enc).flatten.length = zs.length * k := fun zs => by
  rw [length_flattenK (k := k) (fun us hus => by obtain ⟨x, _, rfl⟩ := List.mem_map.1 hus; exact hk x)]
  simp
 have key := rowS (P := P) (f := ρ.f 6) (vs := [.func (.func g) #[] #[]]) (n := xs.length) (T := T) (sz := k) (cs := (xs.map enc).flatten) (R := R)
  (Q := fun cs' r => ∃ ys : List α, ys.Perm xs ∧ (ys.Pairwise fun x y => ltOf cf y x = false) ∧ cs' = (ys.map enc).flatten ∧ r = .val (.tuple #[])) ?_
 ·intro w β κ hG
  refine (key w β κ hG).mono ?_
  rintro e w' ⟨β', κ', bs', r, R', h1, h2, h3, h4, h5, h6, h7, h8, h9, h10, h11, cs', h12, _, ys, h13, h14, h15, h16⟩
  exact ⟨β', κ', bs', r, R', h1, h2, h3, h4, h5, h6, h7, h8, h9, h10, h11, ys, h13, h14, by rw [h12, h15], h16⟩
 ·intro w β κ arr hb hp hs hm
  have hlt : β 0 < w.heap.size := (Array.getElem?_eq_some_iff.1 hb).1
  have hH : HoldsK enc k w (β 0) 0 xs.toArray := by
   intro j hj
   have hj' : j < (xs.map enc).flatten.length := by rw [hfl]; simpa using hj
   have hget : (flatK enc k xs.toArray)[j]! = (xs.map enc).flatten[j] := by
    rw [flatK_toList enc k hk]
    rw [getElem!_pos _ j (by simpa using hj')]
    simp
   refine ⟨?_, by simp [World.frozen?, hb]⟩
   rw [hget]
   simp only [World.cell?, hb, Nat.zero_add, Option.isSome_none, Bool.false_eq_true, if_false]
   rw [← Array.getElem?_toList, id_eq]
   obtain ⟨tl, ht⟩ := hp
   rw [← ht, List.getElem?_append_left hj', List.getElem?_eq_getElem hj']
  have hcmp : CmpLays P g #[] enc k cf (β 0) 0 xs.toArray.size w := by
   intro m os dk _ x y
   refine (hg x y (sortWorldK enc k w (β 0) 0 m dk os) (fun _ _ h => h.elim)).mono ?_
   rintro e w' ⟨v, R', rfl, _, _, hext, rfl⟩
   exact ⟨rfl, ext_grow hext⟩
  have := AnyQ.slices_SortFunc L k aE zE enc hk h1 cf hO g #[] (β 0) 0 (κ 0) xs.toArray w eg hcmp hH hlt (by simpa using hl)
  simp only [List.size_toArray] at this
  refine this.mono ?_
  rintro e w' ⟨rfl, d', n, os, hperm, hsort, rfl⟩
  have hsz : d'.size = xs.length := by simpa using hperm.1
  refine ⟨.val (.tuple #[]), (d'.toList.map enc).flatten, n, os, rfl, rfl, by rw [hfl, hfl]; simp [hsz], ⟨d'.toList, ?_, ?_, rfl, rfl⟩, ?_⟩
  ·have := permIn_perm (d := xs.toArray) (d' := d') hperm
   simpa using this
  ·exact pairwise_sortedIn (by rw [hsz]; exact hsort)
  ·unfold sortWorldK putRowK
   rw [flatK_toList enc k hk]
end Go.Proofs.YtdglpgepgmdbdaaGreatDoor.Vc
