/- Lemmas of our own, no statement of the seat; the last one of the claim's texts proves the law. -/
import Derived.Lib.SlicesCompact
import Derived.Test.YtclkibjonbhldaaGreatDoorBsa
import Derived.Test.YtclkibjonbhldaaGreatDoorVcI
open Nat renaming reduceEqDiff → nQ1, reduceAdd → nQ2, reduceMul → nQ3, reduceLeDiff → nQ4, reduceLT → nQ5, reduceBNe → nQ6
open Int renaming reduceLE → iQ1, reduceLT → iQ2, reduceToNat → iQ3, cast_ofNat_Int → iQ4, reduceEq → iQ5, reduceNe → iQ6
namespace Go.Proofs.YtclkibjonbhldaaGreatDoor
set_option linter.unusedSimpArgs false
set_option linter.unusedVariables false
def Inc (l : List Int) : Prop := l.Pairwise (· < ·)
theorem Inc.ext : ∀ {a b : List Int}, Inc a → Inc b → (∀ x, x ∈ a ↔ x ∈ b) → a = b
 | [], [], _, _, _ => rfl
 | [], y :: ys, _, _, h => absurd ((h y).2 (by simp)) (by simp)
 | x :: xs, [], _, _, h => absurd ((h x).1 (by simp)) (by simp)
 | x :: xs, y :: ys, ha, hb, h => by
  have ha' := List.pairwise_cons.1 ha
  have hb' := List.pairwise_cons.1 hb
  have hxy : x = y := by
   rcases Int.lt_trichotomy x y with hlt | he | hlt
   ·rcases List.mem_cons.1 ((h x).1 (by simp)) with e | m
    ·exact e
    ·have := hb'.1 x m; omega
   ·exact he
   ·rcases List.mem_cons.1 ((h y).2 (by simp)) with e | m
    ·exact e.symm
    ·have := ha'.1 y m; omega
  subst hxy
  congr 1
  refine Inc.ext ha'.2 hb'.2 fun z => ⟨fun hz => ?_, fun hz => ?_⟩
  ·have hlt := ha'.1 z hz
   rcases List.mem_cons.1 ((h z).1 (by simp [hz])) with e | m
   ·omega
   ·exact m
  ·have hlt := hb'.1 z hz
   rcases List.mem_cons.1 ((h z).2 (by simp [hz])) with e | m
   ·omega
   ·exact m
theorem Inc.nodup {l : List Int} (h : Inc l) : l.Nodup := List.Pairwise.imp (fun hlt => by omega) h
theorem Inc.get_lt {l : List Int} (h : Inc l) {i j : Nat} (hij : i < j) (hj : j < l.length) : l[i] < l[j] := List.pairwise_iff_getElem.1 h i j (by omega) hj hij
end Go.Proofs.YtclkibjonbhldaaGreatDoor
namespace Go.Proofs.YtclkibjonbhldaaGreatDoor
set_option linter.unusedSimpArgs false
set_option linter.unusedVariables false
open Go.Proofs.YtclkibjonbhldaaGreatDoor.Vc
theorem cutT {P : PG} {c : VCode} {s : St} {kn : St → Prop} {ke : Nat → St → Prop} {kr : St → Prop} {tn : Tok kn} {te : Tok ke} {tr : Tok kr} (Q : St → Prop) (h : CodeT P c s Q ke kr .mk .mk .mk) (hk : ∀ s', Q s' → kn s') : CodeT P c s kn ke kr tn te tr :=
 vcCode_mono c hk (fun _ _ h => h) (fun _ h => h) h
theorem cutS {P : PG} {l : List VStep} {s : St} {K : St → Prop} {t : Tok K} (Q : St → Prop) (h : StepsT P l s Q .mk) (hk : ∀ s', Q s' → K s') : StepsT P l s K t := vcSteps_mono l hk h
theorem cutR {P : PG} {a b : VCode} {s : St} {kn : St → Prop} {ke : Nat → St → Prop} {kr : St → Prop} {tn : Tok kn} {te : Tok ke} {tr : Tok kr} (s1 : St) (h : CodeT P a s (fun s' => s' = s1) ke kr .mk .mk .mk) (hk : CodeT P b s1 kn ke kr .mk .mk .mk) : CodeT P (.seq a b) s kn ke kr tn te tr :=
 vcCode_mono a (fun s' e => by subst e; exact hk) (fun _ _ h => h) (fun _ h => h) h
theorem cutL {P : PG} {b : VCode} {s : St} {kn kn1 : St → Prop} {ke0 : Nat → St → Prop} {kr : St → Prop} {n : Nat} {t1 : Tok kn} {t2 : Tok (fun (i : Nat) (s' : St) => if i = n then kn1 s' else ke0 i s')} {t3 : Tok kr} {t4 : Tok b} (Q : St → Prop)
  (h : VLoop P b s kn (fun i s' => if i = n then Q s' else ke0 i s') kr .mk .mk .mk .mk) (hk : ∀ s', Q s' → kn1 s') : VLoop P b s kn (fun i s' => if i = n then kn1 s' else ke0 i s') kr t1 t2 t3 t4 :=
 vcCode_mono (.loop b) (fun _ h => h) (fun i s' h => by
  revert h
  by_cases e : i = n
  ·rw [if_pos e, if_pos e]; exact hk s'
  ·rw [if_neg e, if_neg e]; exact id) (fun _ h => h) h
end Go.Proofs.YtclkibjonbhldaaGreatDoor
/- Plain lemmas of our own, no statement of the seat: contracts of the small functions of the packages budget and span, and of their references. -/
namespace Go.Proofs.YtclkibjonbhldaaGreatDoor
set_option linter.unusedSimpArgs false
set_option linter.unusedVariables false
open Go.Proofs.YtclkibjonbhldaaGreatDoor.Vc
/-! ### Lists of things whose cells are known -/
def EncV {α : Type} (enc : α → List Value) (k : Nat) (R : RO) (v : Value) (xs : List α) : Prop := SlK R v k (xs.map enc) ∧ xs.length ≤ 1000000000
theorem EncV.mono {α : Type} {enc : α → List Value} {k : Nat} {R R' : RO} {v : Value} {xs : List α} (h : EncV enc k R v xs) (hle : RO.le R R') : EncV enc k R' v xs := ⟨h.1.mono hle, h.2⟩
theorem EncV.form {α : Type} {enc : α → List Value} {k : Nat} {R : RO} {v : Value} {xs : List α} (h : EncV enc k R v xs) : ∃ a cap, v = .slice a xs.length cap ∧ xs.length ≤ cap ∧ ∀ i (hi : i < xs.length), ∃ ad, a = some ad ∧ ∀ j u, (enc xs[i])[j]? = some u → R ((ad.add (i * k)).add j) u := by
 obtain ⟨⟨a, cap, rfl, hc, hf⟩, _⟩ := h
 rw [List.length_map] at hc
 refine ⟨a, cap, by rw [List.length_map], hc, fun i hi => ?_⟩
 obtain ⟨_, ad, ha, hR⟩ := hf i (enc xs[i]) (by rw [List.getElem?_map, List.getElem?_eq_getElem hi]; rfl)
 exact ⟨ad, ha, hR⟩
theorem EncV.nil {α : Type} (enc : α → List Value) (k : Nat) (R : RO) : EncV enc k R (.slice none 0 0) [] := ⟨⟨none, 0, rfl, Nat.le_refl _, by simp⟩, by simp⟩
theorem RowIn.enc {α : Type} {enc : α → List Value} {k : Nat} {R : RO} {b cap : Nat} {xs : List α} (hk : ∀ x, (enc x).length = k) (h0 : 0 < k) (h : RowIn R b (xs.map enc).flatten) (hc : (xs.map enc).flatten.length ≤ cap * k) (hl : xs.length ≤ 1000000000) : EncV enc k R (.slice (some ⟨b, 0, none⟩) xs.length cap) xs := by
 have h1 := RowIn.slK h (fun us hus => by obtain ⟨x, _, rfl⟩ := List.mem_map.1 hus; exact hk x) h0 hc
 rw [List.length_map] at h1
 exact ⟨h1, hl⟩
/-! ### Spans -/
structure Sp where
 f : Int
 t : Int
 deriving DecidableEq
def Sp.cells (s : Sp) : List Value := [.int .i64 s.f, .int .i64 s.t]
abbrev SpV := EncV Sp.cells 2
def farB (t : Int) : Bool := decide (t < -2251799813685248) || decide (2251799813685248 < t)
def rangedB (l : List Sp) : Bool := l.all fun s => !(farB s.f || farB s.t)
/-! ### Small functions -/
theorem bNaN (a : Int) (R : RO) : CallsR Tryz.prog 112 [.int .i64 a] R fun _ v => v = .bool false := by
 refine callsT mix Tryz.func112 comp112 (by simp [Tryz.ntmps112]) ?_; simp only [go_sem, ↓reduceIte, nQ1, nQ2, nQ3, nQ4, nQ5, nQ6, reduceCtorEq, vc112, rs112]
def cmpI (a b : Int) : Int := if a < b then -1 else if b < a then 1 else 0
theorem bCompare (a b : Int) (R : RO) : CallsR Tryz.prog 89 [.int .i64 a, .int .i64 b] R fun _ v => v = .int .i64 (cmpI a b) := by
 refine callsT mix Tryz.func89 comp89 (by simp [Tryz.ntmps89]) ?_; simp only [go_sem, ↓reduceIte, nQ1, nQ2, nQ3, nQ4, nQ5, nQ6, reduceCtorEq, vc89, rs89]
 refine vcall (bNaN a R) ?_
 rintro R1 v h1 rfl
 try simp only [go_sem, ↓reduceIte, nQ1, nQ2, nQ3, nQ4, nQ5, nQ6, reduceCtorEq]
 refine vcall (bNaN b R1) ?_
 rintro R2 v h2 rfl
 try simp only [go_sem, ↓reduceIte, nQ1, nQ2, nQ3, nQ4, nQ5, nQ6, reduceCtorEq]
 unfold cmpI
 refine ⟨fun h => by simp [h], fun h => ⟨fun h' => by simp [h, h'], fun h' => by simp [h, h']⟩⟩
theorem bFar (t : Int) (R : RO) : CallsR Tryz.prog 111 [.int .i64 t] R fun _ v => v = .bool (farB t) := by
 refine callsT mix Tryz.func111 comp111 (by simp [Tryz.ntmps111]) ?_; simp only [go_sem, ↓reduceIte, nQ1, nQ2, nQ3, nQ4, nQ5, nQ6, reduceCtorEq, vc111, rs111]
 unfold farB
 refine ⟨fun h => by simp [h], fun h => by simp [h]⟩
theorem bFar2 (t : Int) (R : RO) : CallsR Tryz.prog 64 [.int .i64 t] R fun _ v => v = .bool (farB t) := by
 refine callsT mix Tryz.func64 comp64 (by simp [Tryz.ntmps64]) ?_; simp only [go_sem, ↓reduceIte, nQ1, nQ2, nQ3, nQ4, nQ5, nQ6, reduceCtorEq, vc64, rs64]
 unfold farB
 refine ⟨fun h => by simp [h], fun h => by simp [h]⟩
def personB (p : Int) : Bool := decide (0 ≤ p) && decide (p < 512)
theorem bPerson (p : Int) (R : RO) : CallsR Tryz.prog 40 [.int .i64 p] R fun _ v => v = .bool (personB p) := by
 refine callsT mix Tryz.func40 comp40 (by simp [Tryz.ntmps40]) ?_; simp only [go_sem, ↓reduceIte, nQ1, nQ2, nQ3, nQ4, nQ5, nQ6, reduceCtorEq, vc40, rs40]
 unfold personB
 refine ⟨fun h => by simp [h], fun h => by simp [h]⟩
theorem rPerson (p : Int) (R : RO) : CallsR Tryz.prog 51 [.int .i64 p] R fun _ v => v = .bool (personB p) := by
 refine callsT mix Tryz.func51 comp51 (by simp [Tryz.ntmps51]) ?_; simp only [go_sem, ↓reduceIte, nQ1, nQ2, nQ3, nQ4, nQ5, nQ6, reduceCtorEq, vc51, rs51]
 unfold personB
 refine ⟨fun h => by simp [h], fun h => by simp [h]⟩
def grainB (g : Int) : Bool := decide (1 ≤ g) && decide (g ≤ 4)
theorem bGrain (p : Int) (R : RO) : CallsR Tryz.prog 54 [.int .i64 p] R fun _ v => v = .bool (grainB p) := by
 refine callsT mix Tryz.func54 comp54 (by simp [Tryz.ntmps54]) ?_; simp only [go_sem, ↓reduceIte, nQ1, nQ2, nQ3, nQ4, nQ5, nQ6, reduceCtorEq, vc54, rs54]
 unfold grainB
 refine ⟨fun h => by simp [h], fun h => by simp [h]⟩
def sizeI (g : Int) : Int := if g = 1 then 1440 else if g = 2 ∨ g = 3 then 30 else 1
theorem rSize (g : Int) (R : RO) : CallsR Tryz.prog 25 [.int .i64 g] R fun _ v => v = .int .i64 (sizeI g) := by
 refine callsT mix Tryz.func25 comp25 (by simp [Tryz.ntmps25]) ?_; simp only [go_sem, ↓reduceIte, nQ1, nQ2, nQ3, nQ4, nQ5, nQ6, reduceCtorEq, vc25, rs25]
 unfold sizeI
 refine ⟨fun h => by simp [h], fun h => ⟨fun h2 => by simp [h2], fun h2 => ⟨fun h3 => by simp [h3], fun h3 => by simp [h, h2, h3]⟩⟩⟩
def alignedB (s : Sp) (n : Int) : Bool := decide (s.f % n = 0) && decide (s.t % n = 0)
theorem tmod0 {a n : Int} (hn : 0 < n) : a.tmod n = 0 ↔ a % n = 0 := by
 constructor
 ·intro h; exact Int.emod_eq_zero_of_dvd (Int.dvd_of_tmod_eq_zero h)
 ·intro h; exact Int.tmod_eq_zero_of_dvd (Int.dvd_of_emod_eq_zero h)
theorem bAligned (s : Sp) (n : Int) (hn : 0 < n) (R : RO) : CallsR Tryz.prog 58 [.agg s.cells.toArray, .int .i64 n] R fun _ v => v = .bool (alignedB s n) := by
 simp only [Sp.cells]
 refine callsT mix Tryz.func58 comp58 (by simp [Tryz.ntmps58]) ?_; simp only [go_sem, ↓reduceIte, nQ1, nQ2, nQ3, nQ4, nQ5, nQ6, reduceCtorEq, vc58, rs58]
 unfold alignedB
 have h1 := tmod0 (a := s.f) hn
 have h2 := tmod0 (a := s.t) hn
 refine ⟨by omega, fun h => ⟨by omega, ?_⟩, fun h => ?_⟩
 ·rw [decide_eq_true (h1.1 h), Bool.true_and]; congr 1; rw [decide_eq_decide]; exact h2
 ·rw [decide_eq_false (fun h3 => h (h1.2 h3))]; rfl
def floorI (a n : Int) : Int := a - a % n
theorem bFloor (a n : Int) (hn : 0 < n) (ha : -4503599627370496 ≤ a ∧ a ≤ 4503599627370496) (hn2 : n ≤ 1440) (R : RO) : CallsR Tryz.prog 93 [.int .i64 a, .int .i64 n] R fun _ v => v = .int .i64 (floorI a n) := by
 refine callsT mix Tryz.func93 comp93 (by simp [Tryz.ntmps93]) ?_; simp only [go_sem, ↓reduceIte, nQ1, nQ2, nQ3, nQ4, nQ5, nQ6, reduceCtorEq, vc93, rs93]
 unfold floorI
 have h1 := Int.tmod_lt_of_pos a hn
 have h2 : a.tmod n = a % n ∨ (a.tmod n < 0 ∧ a.tmod n + n = a % n) := by
  rcases Int.le_total 0 a with h | h
  ·exact .inl (tmod_nonneg' h)
  ·by_cases h0 : a % n = 0
   ·exact .inl (by rw [h0]; exact (tmod0 hn).2 h0)
   ·right
    have h3 : a.tmod n = a % n - n := by
     rw [Int.tmod_eq_emod]
     rw [if_neg (by
      intro hc
      rcases hc with hc | hc
      ·exact h0 (by rw [show a = 0 by omega]; exact Int.zero_emod n)
      ·exact h0 (Int.emod_eq_zero_of_dvd hc))]
     omega
    have := Int.emod_lt_of_pos a hn
    omega
 have h3 := Int.emod_nonneg a (show n ≠ 0 by omega)
 have h4 := Int.emod_lt_of_pos a hn
 refine ⟨by omega, fun h => ⟨_, W.in64 (by omega), _, W.in64 (by omega), ?_⟩, fun h => ⟨_, W.in64 (by omega), ?_⟩⟩
 ·congr 1; omega
 ·congr 1; omega
theorem bRanged1 (s : Sp) (R : RO) : CallsR Tryz.prog 110 [.agg s.cells.toArray] R fun _ v => v = .bool (farB s.f || farB s.t) := by
 simp only [Sp.cells]
 refine callsT mix Tryz.func110 comp110 (by simp [Tryz.ntmps110]) ?_; simp only [go_sem, ↓reduceIte, nQ1, nQ2, nQ3, nQ4, nQ5, nQ6, reduceCtorEq, vc110, rs110]
 refine vcall (bFar s.f R) ?_
 rintro R1 v h1 rfl
 try simp only [go_sem, ↓reduceIte, nQ1, nQ2, nQ3, nQ4, nQ5, nQ6, reduceCtorEq]
 refine ⟨fun h => ?_, fun h => by simp [h]⟩
 refine vcall (bFar s.t R1) ?_
 rintro R2 v h2 rfl
 try simp only [go_sem, ↓reduceIte, nQ1, nQ2, nQ3, nQ4, nQ5, nQ6, reduceCtorEq]
 simp [h]
/-! ### slices.IndexFunc, ContainsFunc at spans -/
theorem bIndexFunc (f : FuncId) (caps : List Value) (hb : hasBody Tryz.prog f = true) (p : Sp → Bool) (xs : List Sp) (v : Value) (R : RO) (h : SpV R v xs)
  (hf : ∀ (s : Sp) (R' : RO), RO.le R R' → CallsR Tryz.prog f ([.agg s.cells.toArray] ++ caps) R' fun _ u => u = .bool (p s)) : CallsR Tryz.prog 87 [v, .func (.func f) #[] caps.toArray] R fun _ u => ∃ k : Int, u = .int .i64 k ∧ (0 ≤ k ↔ xs.any p = true) := by
 have hxl := h.2
 obtain ⟨a, cap, rfl, hc, hg⟩ := h.form
 refine callsT mix Tryz.func87 comp87 (by simp [Tryz.ntmps87]) ?_; simp only [go_sem, ↓reduceIte, nQ1, nQ2, nQ3, nQ4, nQ5, nQ6, reduceCtorEq, vc87, rs87]
 refine vcLoop Nat (fun i => [(8, .val (.int .i64 i)), (7, .val (.int .i64 xs.length)), (0, .val (.slice a xs.length cap)), (1, .val (.func (.func f) #[] caps.toArray))]) (fun _ => []) (fun i _ => i ≤ xs.length ∧ ∀ j (hj : j < xs.length), j < i → p xs[j] = false) (fun i => xs.length - i) 0 ?_ ?_ ?_ ?_
 ·(try simp only [go_sem, ↓reduceIte, nQ1, nQ2, nQ3, nQ4, nQ5, nQ6, reduceCtorEq]) <;> (repeat' (first | rfl | trivial | constructor | (intro h; exact absurd rfl h)))
 ·try simp only [go_sem, ↓reduceIte, nQ1, nQ2, nQ3, nQ4, nQ5, nQ6, reduceCtorEq]
 ·exact ⟨Nat.zero_le _, fun j _ hj => absurd hj (by omega)⟩
 rintro i env R1 hle1 hE ⟨hi, hno⟩
 (simp only [go_sem] at hE; obtain ⟨e8, e7, e0, e1⟩ := hE; simp only [go_sem, ↓reduceIte, nQ1, nQ2, nQ3, nQ4, nQ5, nQ6, reduceCtorEq, e8, e7, e0, e1]; dsimp only at *)
 refine ⟨fun hlt => ?_, fun hge => ?_⟩
 ·have hlt' : i < xs.length := by omega
  obtain ⟨ad, had, hR⟩ := hg i hlt'
  refine ⟨by omega, vat ad had ?_⟩
  try simp only [go_sem, ↓reduceIte, nQ1, nQ2, nQ3, nQ4, nQ5, nQ6, reduceCtorEq]
  refine vloadn (xs[i]).cells rfl (fun j u hj => hle1 _ _ (hR j u hj)) ?_
  simp only [go_sem, ↓reduceIte, nQ1, nQ2, nQ3, nQ4, nQ5, nQ6, reduceCtorEq, e8, e7, e0, e1]
  refine ⟨hb, vcall (hf xs[i] R1 hle1) ?_⟩
  rintro R2 v hle2 rfl
  simp only [go_sem, ↓reduceIte, nQ1, nQ2, nQ3, nQ4, nQ5, nQ6, reduceCtorEq, e8, e7, e0, e1]
  refine ⟨fun hp => ⟨_, rfl, fun _ => List.any_eq_true.2 ⟨xs[i], List.getElem_mem hlt', hp⟩, fun _ => by omega⟩, fun hp => ?_⟩
  refine ⟨_, W.in64 (by omega), i + 1, by omega, ?_, by omega, fun j hj hji => ?_⟩
  ·try simp only [go_sem, ↓reduceIte, nQ1, nQ2, nQ3, nQ4, nQ5, nQ6, reduceCtorEq]
   rfl
  ·by_cases h : j = i
   ·subst h; exact hp
   ·exact hno j hj (by omega)
 ·refine ⟨_, rfl, fun h => absurd h (by decide), fun h => ?_⟩
  obtain ⟨x, hx, hp⟩ := List.any_eq_true.1 h
  obtain ⟨j, hj, rfl⟩ := List.mem_iff_getElem.1 hx
  rw [hno j hj (by omega)] at hp
  cases hp
end Go.Proofs.YtclkibjonbhldaaGreatDoor
/- Plain lemmas of our own, no statement of the seat: sets of instants as normal lists of spans. -/
namespace Go.Proofs.YtclkibjonbhldaaGreatDoor
set_option linter.unusedSimpArgs false
set_option linter.unusedVariables false
open Go.Proofs.YtclkibjonbhldaaGreatDoor.Vc
/-! ### Normal lists: plain -/
def memS (l : List Sp) (t : Int) : Bool := l.any fun s => decide (s.f ≤ t) && decide (t < s.t)
structure Normal (l : List Sp) : Prop where
 pos : ∀ s ∈ l, s.f < s.t
 ord : l.Pairwise fun a b => a.t < b.f
theorem memS_iff {l : List Sp} {t : Int} : memS l t = true ↔ ∃ s ∈ l, s.f ≤ t ∧ t < s.t := by
 unfold memS
 rw [List.any_eq_true]
 simp only [Bool.and_eq_true, decide_eq_true_eq]
theorem memS_app (a b : List Sp) (t : Int) : memS (a ++ b) t = (memS a t || memS b t) := by unfold memS; rw [List.any_append]
theorem memS_cons (s : Sp) (l : List Sp) (t : Int) : memS (s :: l) t = ((decide (s.f ≤ t) && decide (t < s.t)) || memS l t) := rfl
theorem memS_nil (t : Int) : memS [] t = false := rfl
theorem Normal.nil : Normal [] := ⟨by simp, List.Pairwise.nil⟩
theorem Normal.tail {s : Sp} {l : List Sp} (h : Normal (s :: l)) : Normal l := ⟨fun x hx => h.pos x (by simp [hx]), (List.pairwise_cons.1 h.ord).2⟩
theorem Normal.ext : ∀ {a b : List Sp}, Normal a → Normal b → (∀ t, memS a t = memS b t) → a = b
 | [], [], _, _, _ => rfl
 | [], y :: b, _, hb, h => by
  have h1 := h y.f
  rw [memS_nil, memS_cons, decide_eq_true (Int.le_refl _), decide_eq_true (hb.pos y (by simp))] at h1
  simp at h1
 | x :: a, [], ha, _, h => by
  have h1 := h x.f
  rw [memS_nil, memS_cons, decide_eq_true (Int.le_refl _), decide_eq_true (ha.pos x (by simp))] at h1
  simp at h1
 | x :: a, y :: b, ha, hb, h => by
  have hx := ha.pos x (by simp)
  have hy := hb.pos y (by simp)
  have oa := (List.pairwise_cons.1 ha.ord).1
  have ob := (List.pairwise_cons.1 hb.ord).1
  have h1 : ∃ s ∈ y :: b, s.f ≤ x.f ∧ x.f < s.t := memS_iff.1 (by rw [← h]; exact memS_iff.2 ⟨x, by simp, Int.le_refl _, hx⟩)
  have h2 : ∃ s ∈ x :: a, s.f ≤ y.f ∧ y.f < s.t := memS_iff.1 (by rw [h]; exact memS_iff.2 ⟨y, by simp, Int.le_refl _, hy⟩)
  have hyx : y.f ≤ x.f := by
   obtain ⟨s, hs, h3, _⟩ := h1
   rcases List.mem_cons.1 hs with rfl | hs
   ·exact h3
   ·have := ob s hs; omega
  have hxy : x.f ≤ y.f := by
   obtain ⟨s, hs, h3, _⟩ := h2
   rcases List.mem_cons.1 hs with rfl | hs
   ·exact h3
   ·have := oa s hs; omega
  have hf : x.f = y.f := by omega
  have ht : x.t = y.t := by
   rcases Int.lt_trichotomy x.t y.t with h3 | h3 | h3
   ·exfalso
    have h4 : memS (x :: a) x.t = true := by rw [h]; exact memS_iff.2 ⟨y, by simp, by omega, h3⟩
    obtain ⟨s, hs, h5, h6⟩ := memS_iff.1 h4
    rcases List.mem_cons.1 hs with rfl | hs
    ·omega
    ·have := oa s hs; omega
   ·exact h3
   ·exfalso
    have h4 : memS (y :: b) y.t = true := by rw [← h]; exact memS_iff.2 ⟨x, by simp, by omega, h3⟩
    obtain ⟨s, hs, h5, h6⟩ := memS_iff.1 h4
    rcases List.mem_cons.1 hs with rfl | hs
    ·omega
    ·have := ob s hs; omega
  have hxy' : x = y := by cases x; cases y; simp only at hf ht; subst hf ht; rfl
  subst hxy'
  have hrest : ∀ t, memS a t = memS b t := fun t => by
   have h3 := h t
   rw [memS_cons, memS_cons] at h3
   by_cases hin : t ≤ x.t
   ·have ea : memS a t = false := by
     cases hm : memS a t with
     | false => rfl
     | true => obtain ⟨s, hs, h5, _⟩ := memS_iff.1 hm; have := oa s hs; omega
    have eb : memS b t = false := by
     cases hm : memS b t with
     | false => rfl
     | true => obtain ⟨s, hs, h5, _⟩ := memS_iff.1 hm; have := ob s hs; omega
    rw [ea, eb]
   ·rw [decide_eq_false (show ¬ t < x.t by omega), Bool.and_false, Bool.false_or, Bool.false_or] at h3
    exact h3
  rw [Normal.ext ha.tail hb.tail hrest]
theorem Normal.snoc {l : List Sp} {s : Sp} (h : Normal l) (hs : s.f < s.t) (hb : ∀ x ∈ l, x.t < s.f) : Normal (l ++ [s]) :=
  ⟨fun x hx => by
    rcases List.mem_append.1 hx with hx | hx
    · exact h.pos x hx
    · simp only [List.mem_cons, List.not_mem_nil, or_false] at hx; subst hx; exact hs,
   List.pairwise_append.2 ⟨h.ord, List.pairwise_singleton _ _, fun x hx y hy => by simp only [List.mem_cons, List.not_mem_nil, or_false] at hy; subst hy; exact hb x hx⟩⟩
theorem Normal.last {l : List Sp} {s : Sp} (h : Normal (l ++ [s])) : Normal l ∧ s.f < s.t ∧ ∀ x ∈ l, x.t < s.f :=
 ⟨⟨fun x hx => h.pos x (List.mem_append.2 (.inl hx)), (List.pairwise_append.1 h.ord).1⟩, h.pos s (by simp), fun x hx => (List.pairwise_append.1 h.ord).2.2 x hx s (by simp)⟩
instance (l : List Sp) : Decidable (Normal l) := decidable_of_iff ((∀ s ∈ l, s.f < s.t) ∧ l.Pairwise fun a b => a.t < b.f) ⟨fun h => ⟨h.1, h.2⟩, fun h => ⟨h.pos, h.ord⟩⟩
theorem normal_take {l : List Sp} {i : Nat} (hi : i < l.length) (h : Normal (l.take i)) (h1 : l[i].f < l[i].t) (h2 : 0 < i → (l[i - 1]'(by omega)).t < l[i].f) : Normal (l.take (i + 1)) := by
 rw [List.take_succ_eq_append_getElem hi]
 refine h.snoc h1 fun x hx => ?_
 obtain ⟨j, hj, rfl⟩ := List.mem_take_iff_getElem.1 hx
 by_cases hji : j = i - 1
 ·subst hji; exact h2 (by omega)
 ·have h3 := List.pairwise_iff_getElem.1 h.ord j (i - 1) (by simp; omega) (by simp; omega) (by omega)
  rw [List.getElem_take, List.getElem_take] at h3
  have h4 := h.pos (l[i - 1]'(by omega)) (List.mem_take_iff_getElem.2 ⟨i - 1, by omega, rfl⟩)
  have := h2 (by omega)
  omega
def validS (l : List Sp) : Bool := decide (Normal l) && rangedB l
/-! ### Valid, in range -/
theorem bRanged (l : List Sp) (v : Value) (R : RO) (h : SpV R v l) : CallsR Tryz.prog 86 [v] R fun _ r => r = .bool (rangedB l) := by
 have hI := bIndexFunc 110 [] (by kernel_rfl) (fun s => farB s.f || farB s.t) l
 obtain ⟨a, cap, rfl, hc, hg⟩ := h.form
 have hC : ∀ R', RO.le R R' → CallsR Tryz.prog 56 [.slice a l.length cap, .func (.func 110) #[] #[]] R' fun _ r => r = .bool (l.any fun s => farB s.f || farB s.t) := fun R' hle => by
  refine callsT mix Tryz.func56 comp56 (by simp [Tryz.ntmps56]) ?_; simp only [go_sem, ↓reduceIte, nQ1, nQ2, nQ3, nQ4, nQ5, nQ6, reduceCtorEq, vc56, rs56]
  refine vcall (hI _ R' (h.mono hle) fun s R'' _ => bRanged1 s R'') ?_
  rintro R1 u h1 ⟨k, rfl, hk⟩
  try simp only [go_sem, ↓reduceIte, nQ1, nQ2, nQ3, nQ4, nQ5, nQ6, reduceCtorEq]
  congr 1
  rw [Bool.eq_iff_iff, decide_eq_true_eq]
  exact hk
 refine callsT mix Tryz.func86 comp86 (by simp [Tryz.ntmps86]) ?_; simp only [go_sem, ↓reduceIte, nQ1, nQ2, nQ3, nQ4, nQ5, nQ6, reduceCtorEq, vc86, rs86]
 refine vcall (hC R (RO.le_refl _)) ?_
 rintro R1 u h1 rfl
 try simp only [go_sem, ↓reduceIte, nQ1, nQ2, nQ3, nQ4, nQ5, nQ6, reduceCtorEq]
 unfold rangedB
 congr 1
 rw [List.any_eq_not_all_not]; simp
end Go.Proofs.YtclkibjonbhldaaGreatDoor
/- Plain lemmas of our own, no statement of the seat: contracts of Valid, InRange, Has, Same at lists of spans. -/
namespace Go.Proofs.YtclkibjonbhldaaGreatDoor
set_option linter.unusedSimpArgs false
set_option linter.unusedVariables false
open Go.Proofs.YtclkibjonbhldaaGreatDoor.Vc
theorem bValidS (l : List Sp) (v : Value) (R : RO) (h : SpV R v l) : CallsR Tryz.prog 55 [v] R fun _ r => r = .bool (validS l) := by
 have hRg := fun R' hle => bRanged l v R' (EncV.mono (R' := R') h hle)
 have hxl := h.2
 obtain ⟨a, cap, rfl, hc, hg⟩ := h.form
 refine callsT mix Tryz.func55 comp55 (by simp [Tryz.ntmps55]) ?_; simp only [go_sem, ↓reduceIte, nQ1, nQ2, nQ3, nQ4, nQ5, nQ6, reduceCtorEq, vc55, rs55]
 have hbad : ¬ Normal l → Value.bool false = Value.bool (validS l) := fun hn => by
  unfold validS; rw [decide_eq_false hn]; rfl
 refine vcLoop Nat (fun i => [(7, .val (.int .i64 i)), (6, .val (.int .i64 l.length)), (5, .val (.slice a l.length cap)), (0, .val (.slice a l.length cap))]) (fun _ => []) (fun i _ => i ≤ l.length ∧ Normal (l.take i)) (fun i => l.length - i) 0 ?_ ?_ ?_ ?_
 ·(try simp only [go_sem, ↓reduceIte, nQ1, nQ2, nQ3, nQ4, nQ5, nQ6, reduceCtorEq]) <;> (repeat' (first | rfl | trivial | constructor | (intro h; exact absurd rfl h)))
 ·try simp only [go_sem, ↓reduceIte, nQ1, nQ2, nQ3, nQ4, nQ5, nQ6, reduceCtorEq]
 ·exact ⟨Nat.zero_le _, Normal.nil⟩
 rintro i env R1 hle1 hE ⟨hi, hn⟩
 (simp only [go_sem] at hE; obtain ⟨e7, e6, e5, e0⟩ := hE; simp only [go_sem, ↓reduceIte, nQ1, nQ2, nQ3, nQ4, nQ5, nQ6, reduceCtorEq, e7, e6, e5, e0]; dsimp only at *)
 refine ⟨fun hlt => ?_, fun hge => ?_⟩
 ·have hlt' : i < l.length := by omega
  obtain ⟨ad, had, hR⟩ := hg i hlt'
  refine ⟨by omega, vat ad had ?_⟩
  try simp only [go_sem, ↓reduceIte, nQ1, nQ2, nQ3, nQ4, nQ5, nQ6, reduceCtorEq]
  refine vloadn (l[i]).cells rfl (fun j u hj => hle1 _ _ (hR j u hj)) ?_
  simp only [go_sem, ↓reduceIte, nQ1, nQ2, nQ3, nQ4, nQ5, nQ6, reduceCtorEq, Sp.cells, e7, e6, e5, e0]
  refine ⟨fun h1 => ⟨fun h2 => ?_, fun h2 => ?_⟩, fun h1 => hbad fun hN => ?_⟩
  ·obtain ⟨ad', had', hR'⟩ := hg (i - 1) (by omega)
   refine ⟨_, W.in64 (by omega), by omega, by omega, ?_⟩
   rw [show ((i : Int) - 1).toNat = i - 1 by omega]
   refine vat ad' had' ?_
   try simp only [go_sem, ↓reduceIte, nQ1, nQ2, nQ3, nQ4, nQ5, nQ6, reduceCtorEq]
   refine vload (.int .i64 (l[i - 1]).t) (hle1 _ _ (hR' 1 _ rfl)) ?_
   simp only [go_sem, ↓reduceIte, nQ1, nQ2, nQ3, nQ4, nQ5, nQ6, reduceCtorEq, e7, e6, e5, e0]
   refine ⟨fun h3 => hbad fun hN => ?_, fun h3 => ?_⟩
   ·have := List.pairwise_iff_getElem.1 hN.ord (i - 1) i (by omega) hlt' (by omega); omega
   ·refine ⟨_, W.in64 (by omega), i + 1, by omega, ?_, by omega, normal_take hlt' hn (by omega) (fun _ => by omega)⟩
    try simp only [go_sem, ↓reduceIte, nQ1, nQ2, nQ3, nQ4, nQ5, nQ6, reduceCtorEq]
    rfl
  ·refine ⟨_, W.in64 (by omega), i + 1, by omega, ?_, by omega, normal_take hlt' hn (by omega) (fun _ => by omega)⟩
   try simp only [go_sem, ↓reduceIte, nQ1, nQ2, nQ3, nQ4, nQ5, nQ6, reduceCtorEq]
   rfl
  ·have := hN.pos l[i] (List.getElem_mem hlt'); omega
 ·obtain rfl : i = l.length := by omega
  rw [List.take_length] at hn
  refine vcall (hRg R1 hle1) ?_
  rintro R2 r hle2 rfl
  simp only [go_sem, ↓reduceIte, nQ1, nQ2, nQ3, nQ4, nQ5, nQ6, reduceCtorEq, e7, e6, e5, e0]
  unfold validS
  rw [decide_eq_true hn, Bool.true_and]
theorem rInRange (l : List Sp) (v : Value) (R : RO) (h : SpV R v l) : CallsR Tryz.prog 113 [v] R fun _ r => r = .bool (rangedB l) := by
 have hxl := h.2
 obtain ⟨a, cap, rfl, hc, hg⟩ := h.form
 refine callsT mix Tryz.func113 comp113 (by simp [Tryz.ntmps113]) ?_; simp only [go_sem, ↓reduceIte, nQ1, nQ2, nQ3, nQ4, nQ5, nQ6, reduceCtorEq, vc113, rs113]
 have hbad : ∀ i (hi : i < l.length), (farB l[i].f || farB l[i].t) = true → Value.bool false = Value.bool (rangedB l) := fun i hi hf => by
  congr 1
  symm
  unfold rangedB
  rw [List.all_eq_false]
  exact ⟨l[i], List.getElem_mem hi, by rw [hf]; simp⟩
 refine vcLoop Nat (fun i => [(3, .val (.int .i64 i)), (0, .val (.slice a l.length cap))]) (fun _ => []) (fun i _ => i ≤ l.length ∧ ∀ s ∈ l.take i, (farB s.f || farB s.t) = false) (fun i => l.length - i) 0 ?_ ?_ ?_ ?_
 ·(try simp only [go_sem, ↓reduceIte, nQ1, nQ2, nQ3, nQ4, nQ5, nQ6, reduceCtorEq]) <;> (repeat' (first | rfl | trivial | constructor | (intro h; exact absurd rfl h)))
 ·try simp only [go_sem, ↓reduceIte, nQ1, nQ2, nQ3, nQ4, nQ5, nQ6, reduceCtorEq]
 ·exact ⟨Nat.zero_le _, by simp⟩
 rintro i env R1 hle1 hE ⟨hi, hn⟩
 (simp only [go_sem] at hE; obtain ⟨e3, e0⟩ := hE; simp only [go_sem, ↓reduceIte, nQ1, nQ2, nQ3, nQ4, nQ5, nQ6, reduceCtorEq, e3, e0]; dsimp only at *)
 refine ⟨fun hlt => ?_, fun hge => ?_⟩
 ·have hlt' : i < l.length := by omega
  obtain ⟨ad, had, hR⟩ := hg i hlt'
  refine ⟨by omega, vat ad had ?_⟩
  try simp only [go_sem, ↓reduceIte, nQ1, nQ2, nQ3, nQ4, nQ5, nQ6, reduceCtorEq]
  refine vload (.int .i64 (l[i]).f) (hle1 _ _ (hR 0 _ rfl)) ?_
  simp only [go_sem, ↓reduceIte, nQ1, nQ2, nQ3, nQ4, nQ5, nQ6, reduceCtorEq, e3, e0]
  refine vcall (bFar2 (l[i]).f R1) ?_
  rintro R2 r hle2 rfl
  simp only [go_sem, ↓reduceIte, nQ1, nQ2, nQ3, nQ4, nQ5, nQ6, reduceCtorEq, e3, e0]
  have hb := hbad i hlt'
  refine ⟨fun h1 => ⟨by omega, vat ad had ?_⟩, fun h1 => hb (by rw [h1]; rfl)⟩
  try simp only [go_sem, ↓reduceIte, nQ1, nQ2, nQ3, nQ4, nQ5, nQ6, reduceCtorEq]
  refine vload (.int .i64 (l[i]).t) (hle2 _ _ (hle1 _ _ (hR 1 _ rfl))) ?_
  simp only [go_sem, ↓reduceIte, nQ1, nQ2, nQ3, nQ4, nQ5, nQ6, reduceCtorEq, e3, e0]
  refine vcall (bFar2 (l[i]).t R2) ?_
  rintro R3 r hle3 rfl
  simp only [go_sem, ↓reduceIte, nQ1, nQ2, nQ3, nQ4, nQ5, nQ6, reduceCtorEq, e3, e0]
  refine ⟨fun h2 => hb (by rw [h1, h2]; rfl), fun h2 => ?_⟩
  refine ⟨_, W.in64 (by omega), i + 1, by omega, ?_, by omega, fun s hs => ?_⟩
  ·try simp only [go_sem, ↓reduceIte, nQ1, nQ2, nQ3, nQ4, nQ5, nQ6, reduceCtorEq]
   rfl
  ·rw [List.take_succ_eq_append_getElem hlt'] at hs
   rcases List.mem_append.1 hs with hs | hs
   ·exact hn s hs
   ·simp only [List.mem_cons, List.not_mem_nil, or_false] at hs
    subst hs
    rw [h1, h2]; rfl
 ·obtain rfl : i = l.length := by omega
  rw [List.take_length] at hn
  symm
  congr 1
  unfold rangedB
  rw [List.all_eq_true]
  intro s hs
  rw [hn s hs]; rfl
theorem rValidS (l : List Sp) (v : Value) (R : RO) (h : SpV R v l) : CallsR Tryz.prog 91 [v] R fun _ r => r = .bool (validS l) := by
 have hRg := fun R' hle => rInRange l v R' (EncV.mono (R' := R') h hle)
 have hxl := h.2
 obtain ⟨a, cap, rfl, hc, hg⟩ := h.form
 refine callsT mix Tryz.func91 comp91 (by simp [Tryz.ntmps91]) ?_; simp only [go_sem, ↓reduceIte, nQ1, nQ2, nQ3, nQ4, nQ5, nQ6, reduceCtorEq, vc91, rs91]
 have hbad : ¬ Normal l → Value.bool false = Value.bool (validS l) := fun hn => by
  unfold validS; rw [decide_eq_false hn]; rfl
 refine vcLoop Nat (fun i => [(3, .val (.int .i64 i)), (0, .val (.slice a l.length cap))]) (fun _ => []) (fun i _ => i ≤ l.length ∧ Normal (l.take i)) (fun i => l.length - i) 0 ?_ ?_ ?_ ?_
 ·(try simp only [go_sem, ↓reduceIte, nQ1, nQ2, nQ3, nQ4, nQ5, nQ6, reduceCtorEq]) <;> (repeat' (first | rfl | trivial | constructor | (intro h; exact absurd rfl h)))
 ·try simp only [go_sem, ↓reduceIte, nQ1, nQ2, nQ3, nQ4, nQ5, nQ6, reduceCtorEq]
 ·exact ⟨Nat.zero_le _, Normal.nil⟩
 rintro i env R1 hle1 hE ⟨hi, hn⟩
 (simp only [go_sem] at hE; obtain ⟨e3, e0⟩ := hE; simp only [go_sem, ↓reduceIte, nQ1, nQ2, nQ3, nQ4, nQ5, nQ6, reduceCtorEq, e3, e0]; dsimp only at *)
 refine ⟨fun hlt => ?_, fun hge => ?_⟩
 ·have hlt' : i < l.length := by omega
  obtain ⟨ad, had, hR⟩ := hg i hlt'
  have hR1 : R1 ((ad.add (i * 2)).add 0) (.int .i64 (l[i]).f) := hle1 _ _ (hR 0 _ rfl)
  have hR2 : R1 ((ad.add (i * 2)).add 1) (.int .i64 (l[i]).t) := hle1 _ _ (hR 1 _ rfl)
  refine ⟨by omega, vat ad had ?_⟩
  try simp only [go_sem, ↓reduceIte, nQ1, nQ2, nQ3, nQ4, nQ5, nQ6, reduceCtorEq]
  refine vload _ hR1 ?_
  simp only [go_sem, ↓reduceIte, nQ1, nQ2, nQ3, nQ4, nQ5, nQ6, reduceCtorEq, e3, e0]
  refine ⟨by omega, vat ad had ?_⟩
  try simp only [go_sem, ↓reduceIte, nQ1, nQ2, nQ3, nQ4, nQ5, nQ6, reduceCtorEq]
  refine vload _ hR2 ?_
  simp only [go_sem, ↓reduceIte, nQ1, nQ2, nQ3, nQ4, nQ5, nQ6, reduceCtorEq, e3, e0]
  refine ⟨fun h1 => ⟨fun h2 => ?_, fun h2 => ?_⟩, fun h1 => hbad fun hN => ?_⟩
  ·obtain ⟨ad', had', hR'⟩ := hg (i - 1) (by omega)
   refine ⟨_, W.in64 (by omega), by omega, by omega, ?_⟩
   rw [show ((i : Int) - 1).toNat = i - 1 by omega]
   refine vat ad' had' ?_
   try simp only [go_sem, ↓reduceIte, nQ1, nQ2, nQ3, nQ4, nQ5, nQ6, reduceCtorEq]
   refine vload (.int .i64 (l[i - 1]).t) (hle1 _ _ (hR' 1 _ rfl)) ?_
   simp only [go_sem, ↓reduceIte, nQ1, nQ2, nQ3, nQ4, nQ5, nQ6, reduceCtorEq, e3, e0]
   refine ⟨by omega, vat ad had ?_⟩
   try simp only [go_sem, ↓reduceIte, nQ1, nQ2, nQ3, nQ4, nQ5, nQ6, reduceCtorEq]
   refine vload _ hR1 ?_
   simp only [go_sem, ↓reduceIte, nQ1, nQ2, nQ3, nQ4, nQ5, nQ6, reduceCtorEq, e3, e0]
   refine ⟨fun h3 => hbad fun hN => ?_, fun h3 => ?_⟩
   ·have := List.pairwise_iff_getElem.1 hN.ord (i - 1) i (by omega) hlt' (by omega); omega
   ·refine ⟨_, W.in64 (by omega), i + 1, by omega, ?_, by omega, normal_take hlt' hn (by omega) (fun _ => by omega)⟩
    try simp only [go_sem, ↓reduceIte, nQ1, nQ2, nQ3, nQ4, nQ5, nQ6, reduceCtorEq]
    rfl
  ·refine ⟨_, W.in64 (by omega), i + 1, by omega, ?_, by omega, normal_take hlt' hn (by omega) (fun _ => by omega)⟩
   try simp only [go_sem, ↓reduceIte, nQ1, nQ2, nQ3, nQ4, nQ5, nQ6, reduceCtorEq]
   rfl
  ·have := hN.pos l[i] (List.getElem_mem hlt'); omega
 ·obtain rfl : i = l.length := by omega
  rw [List.take_length] at hn
  refine vcall (hRg R1 hle1) ?_
  rintro R2 r hle2 rfl
  simp only [go_sem, ↓reduceIte, nQ1, nQ2, nQ3, nQ4, nQ5, nQ6, reduceCtorEq, e3, e0]
  unfold validS
  rw [decide_eq_true hn, Bool.true_and]
theorem rHasS (l : List Sp) (t : Int) (v : Value) (R : RO) (h : SpV R v l) : CallsR Tryz.prog 96 [v, .int .i64 t] R fun _ r => r = .bool (memS l t) := by
 have hxl := h.2
 obtain ⟨a, cap, rfl, hc, hg⟩ := h.form
 refine callsT mix Tryz.func96 comp96 (by simp [Tryz.ntmps96]) ?_; simp only [go_sem, ↓reduceIte, nQ1, nQ2, nQ3, nQ4, nQ5, nQ6, reduceCtorEq, vc96, rs96]
 refine vcLoop Nat (fun i => [(5, .val (.int .i64 i)), (0, .val (.slice a l.length cap)), (1, .val (.int .i64 t))]) (fun _ => []) (fun i _ => i ≤ l.length ∧ memS (l.take i) t = false) (fun i => l.length - i) 0 ?_ ?_ ?_ ?_
 ·(try simp only [go_sem, ↓reduceIte, nQ1, nQ2, nQ3, nQ4, nQ5, nQ6, reduceCtorEq]) <;> (repeat' (first | rfl | trivial | constructor | (intro h; exact absurd rfl h)))
 ·try simp only [go_sem, ↓reduceIte, nQ1, nQ2, nQ3, nQ4, nQ5, nQ6, reduceCtorEq]
 ·exact ⟨Nat.zero_le _, rfl⟩
 rintro i env R1 hle1 hE ⟨hi, hn⟩
 (simp only [go_sem] at hE; obtain ⟨e5, e0, e1⟩ := hE; simp only [go_sem, ↓reduceIte, nQ1, nQ2, nQ3, nQ4, nQ5, nQ6, reduceCtorEq, e5, e0, e1]; dsimp only at *)
 refine ⟨fun hlt => ?_, fun hge => ?_⟩
 ·have hlt' : i < l.length := by omega
  obtain ⟨ad, had, hR⟩ := hg i hlt'
  have hs : memS (l.take (i + 1)) t = (decide (l[i].f ≤ t) && decide (t < l[i].t)) := by
   rw [List.take_succ_eq_append_getElem hlt', memS_app, hn, Bool.false_or, memS_cons, memS_nil, Bool.or_false]
  refine ⟨by omega, vat ad had ?_⟩
  try simp only [go_sem, ↓reduceIte, nQ1, nQ2, nQ3, nQ4, nQ5, nQ6, reduceCtorEq]
  refine vload (.int .i64 (l[i]).f) (hle1 _ _ (hR 0 _ rfl)) ?_
  simp only [go_sem, ↓reduceIte, nQ1, nQ2, nQ3, nQ4, nQ5, nQ6, reduceCtorEq, e5, e0, e1]
  have hnext : memS (l.take (i + 1)) t = false → ∃ r, W .i64 ((i : Int) + 1) r ∧ ∃ x', l.length - x' < l.length - i ∧ SV.val (.int .i64 r) = SV.val (.int .i64 (x' : Nat)) ∧ x' ≤ l.length ∧ memS (l.take x') t = false := fun h => ⟨_, W.in64 (by omega), i + 1, by omega, rfl, by omega, h⟩
  refine ⟨fun h1 => ⟨by omega, vat ad had ?_⟩, fun h1 => hnext (by rw [hs, decide_eq_false h1]; rfl)⟩
  try simp only [go_sem, ↓reduceIte, nQ1, nQ2, nQ3, nQ4, nQ5, nQ6, reduceCtorEq]
  refine vload (.int .i64 (l[i]).t) (hle1 _ _ (hR 1 _ rfl)) ?_
  simp only [go_sem, ↓reduceIte, nQ1, nQ2, nQ3, nQ4, nQ5, nQ6, reduceCtorEq, e5, e0, e1]
  refine ⟨fun h2 => ?_, fun h2 => hnext (by rw [hs, decide_eq_true h1, decide_eq_false h2]; rfl)⟩
  symm
  congr 1
  exact memS_iff.2 ⟨l[i], List.getElem_mem hlt', h1, h2⟩
 ·obtain rfl : i = l.length := by omega
  rw [List.take_length] at hn
  rw [hn]
theorem rSameS (xs ys : List Sp) (v u : Value) (R : RO) (h : SpV R v xs) (k : SpV R u ys) : CallsR Tryz.prog 31 [v, u] R fun _ r => r = .bool (decide (xs = ys)) := by
 have hxl := h.2
 obtain ⟨a, cap, rfl, hc, hf⟩ := h.form
 obtain ⟨b, cap', rfl, hc', hf'⟩ := k.form
 refine callsT mix Tryz.func31 comp31 (by simp [Tryz.ntmps31]) ?_; simp only [go_sem, ↓reduceIte, nQ1, nQ2, nQ3, nQ4, nQ5, nQ6, reduceCtorEq, vc31, rs31]
 refine ⟨fun hne => ?_, fun he => ?_⟩
 ·rw [decide_eq_false]; rintro rfl; exact hne (by omega)
 ·have hlen : xs.length = ys.length := by omega
  refine vcLoop Nat (fun i => [(5, .val (.int .i64 i)), (0, .val (.slice a xs.length cap)), (1, .val (.slice b ys.length cap'))]) (fun _ => []) (fun i _ => i ≤ xs.length ∧ xs.take i = ys.take i) (fun i => xs.length - i) 0 ?_ ?_ ?_ ?_
  ·(try simp only [go_sem, ↓reduceIte, nQ1, nQ2, nQ3, nQ4, nQ5, nQ6, reduceCtorEq]) <;> (repeat' (first | rfl | trivial | constructor | (intro h; exact absurd rfl h)))
  ·try simp only [go_sem, ↓reduceIte, nQ1, nQ2, nQ3, nQ4, nQ5, nQ6, reduceCtorEq]
  ·exact ⟨Nat.zero_le _, rfl⟩
  rintro i env R1 hle1 hE ⟨hi, hn⟩
  (simp only [go_sem] at hE; obtain ⟨e5, e0, e1⟩ := hE; simp only [go_sem, ↓reduceIte, nQ1, nQ2, nQ3, nQ4, nQ5, nQ6, reduceCtorEq, e5, e0, e1]; dsimp only at *)
  refine ⟨fun hlt => ?_, fun hge => ?_⟩
  ·have hlt' : i < xs.length := by omega
   have hlt2 : i < ys.length := by omega
   obtain ⟨ad, had, hR⟩ := hf i hlt'
   obtain ⟨ad', had', hR'⟩ := hf' i hlt2
   refine ⟨by omega, vat ad had ?_⟩
   try simp only [go_sem, ↓reduceIte, nQ1, nQ2, nQ3, nQ4, nQ5, nQ6, reduceCtorEq]
   refine vloadn (xs[i]).cells rfl (fun j u hj => hle1 _ _ (hR j u hj)) ?_
   simp only [go_sem, ↓reduceIte, nQ1, nQ2, nQ3, nQ4, nQ5, nQ6, reduceCtorEq, e5, e0, e1]
   refine ⟨by omega, vat ad' had' ?_⟩
   try simp only [go_sem, ↓reduceIte, nQ1, nQ2, nQ3, nQ4, nQ5, nQ6, reduceCtorEq]
   refine vloadn (ys[i]).cells rfl (fun j u hj => hle1 _ _ (hR' j u hj)) ?_
   simp only [go_sem, ↓reduceIte, nQ1, nQ2, nQ3, nQ4, nQ5, nQ6, reduceCtorEq, Sp.cells, e5, e0, e1]
   refine ⟨fun h1 => ?_, fun h1 => ⟨_, W.in64 (by omega), i + 1, by omega, rfl, by omega, ?_⟩⟩
   ·congr 1
    symm
    rw [decide_eq_false_iff_not]
    rintro rfl
    simp at h1
   ·rw [List.take_succ_eq_append_getElem hlt', List.take_succ_eq_append_getElem hlt2, hn]
    congr 2
    generalize xs[i] = x at h1
    generalize ys[i] = y at h1
    cases x; cases y
    simp only at h1
    obtain ⟨h1, h2⟩ := h1
    subst h1; subst h2; rfl
  ·obtain rfl : i = xs.length := by omega
   rw [List.take_length, hlen, List.take_length] at hn
   rw [decide_eq_true hn]
end Go.Proofs.YtclkibjonbhldaaGreatDoor
/- Plain lemmas of our own, no statement of the seat: insertion into rising lists; the reference insert, in. -/
namespace Go.Proofs.YtclkibjonbhldaaGreatDoor
set_option linter.unusedSimpArgs false
set_option linter.unusedVariables false
open Go.Proofs.YtclkibjonbhldaaGreatDoor.Vc
theorem mem_tw {α : Type} {p : α → Bool} : ∀ {l : List α} {a : α}, a ∈ l.takeWhile p → p a = true
 | [], a, h => by simp at h
 | x :: l, a, h => by
  rw [List.takeWhile_cons] at h
  split at h
  ·rcases List.mem_cons.1 h with rfl | h
   ·assumption
   ·exact mem_tw h
  ·simp at h
theorem drop_tw {α : Type} (p : α → Bool) : ∀ l : List α, l.drop (l.takeWhile p).length = l.dropWhile p
 | [] => rfl
 | x :: l => by
  rw [List.takeWhile_cons, List.dropWhile_cons]
  split
  ·rw [List.length_cons, List.drop_succ_cons]; exact drop_tw p l
  ·rfl
def insI (l : List Int) (x : Int) : List Int := let r := l.dropWhile fun y => decide (y < x); (l.takeWhile fun y => decide (y < x)) ++ (if r.head? = some x then r else x :: r)
theorem insI_inc {l : List Int} {x : Int} (h : Inc l) : Inc (insI l x) := by
 have hs := h
 rw [← List.takeWhile_append_dropWhile (p := fun y => decide (y < x)) (l := l)] at hs
 have hs' := List.pairwise_append.1 hs
 have ht : ∀ a ∈ l.takeWhile (fun y => decide (y < x)), a < x := fun a ha => by simpa using mem_tw ha
 unfold insI
 dsimp only
 split
 ·exact hs
 ·rename_i hh
  have hd : ∀ b ∈ l.dropWhile (fun y => decide (y < x)), x < b := by
   intro b hb
   cases hr : l.dropWhile (fun y => decide (y < x)) with
   | nil => rw [hr] at hb; simp at hb
   | cons y r =>
    have h4 := List.head_dropWhile_not (fun y => decide (y < x)) (l := l) (by rw [hr]; simp)
    simp only [hr, List.head_cons, decide_eq_false_iff_not] at h4
    have hy : x < y := by
     rcases Int.lt_trichotomy x y with h | h | h
     ·exact h
     ·rw [hr, h] at hh; simp at hh
     ·exact absurd h h4
    have h5 := hs'.2.1
    rw [hr] at h5 hb
    rcases List.mem_cons.1 hb with rfl | hb
    ·exact hy
    ·have := (List.pairwise_cons.1 h5).1 b hb; omega
  refine List.pairwise_append.2 ⟨hs'.1, List.pairwise_cons.2 ⟨hd, hs'.2.1⟩, fun a ha b hb => ?_⟩
  rcases List.mem_cons.1 hb with rfl | hb
  ·exact ht a ha
  ·exact hs'.2.2 a ha b hb
theorem insI_mem (l : List Int) (x y : Int) : y ∈ insI l x ↔ y = x ∨ y ∈ l := by
 have hl : y ∈ l ↔ y ∈ l.takeWhile (fun y => decide (y < x)) ∨ y ∈ l.dropWhile (fun y => decide (y < x)) := by rw [← List.mem_append, List.takeWhile_append_dropWhile]
 unfold insI
 dsimp only
 rw [hl, List.mem_append]
 split
 ·rename_i hh
  have hx : x ∈ l.dropWhile (fun y => decide (y < x)) := List.mem_of_mem_head? hh
  constructor
  ·exact .inr
  ·rintro (rfl | h)
   ·exact .inr hx
   ·exact h
 ·rw [List.mem_cons]
  constructor
  ·rintro (h | h | h)
   ·exact .inr (.inl h)
   ·exact .inl h
   ·exact .inr (.inr h)
  ·rintro (h | h | h)
   ·exact .inr (.inl h)
   ·exact .inl h
   ·exact .inr (.inr h)
def insK (l : List Int) (x : Int) : Nat := (l.takeWhile fun y => decide (y < x)).length
theorem insK_le (l : List Int) (x : Int) : insK l x ≤ l.length := (List.takeWhile_prefix _).length_le
theorem insK_less {l : List Int} {x : Int} {i : Nat} (h : i < insK l x) (hi : i < l.length) : l[i] < x := by
 have h0 : l.take (insK l x) = l.takeWhile fun y => decide (y < x) := (List.prefix_iff_eq_take.1 (List.takeWhile_prefix _)).symm
 have h1 : l[i] ∈ l.takeWhile fun y => decide (y < x) := by
  rw [← h0, List.mem_take_iff_getElem]
  exact ⟨i, by omega, rfl⟩
 simpa using mem_tw h1
theorem insK_not {l : List Int} {x : Int} (h : insK l x < l.length) : ¬ l[insK l x] < x := by
 have h2 : l.drop (insK l x) = l.dropWhile fun y => decide (y < x) := drop_tw _ l
 have h3 : (l.dropWhile fun y => decide (y < x)) ≠ [] := by
  intro e
  have := congrArg List.length (h2.trans e)
  simp at this; omega
 have h4 := List.head_dropWhile_not (fun y => decide (y < x)) h3
 have h5 : (l.dropWhile fun y => decide (y < x)).head h3 = l[insK l x] := by
  simp only [← h2]
  rw [List.head_drop]
 rw [h5] at h4
 simpa using h4
theorem insI_eq (l : List Int) (x : Int) : insI l x = if l[insK l x]? = some x then l else l.take (insK l x) ++ x :: l.drop (insK l x) := by
 have h0 : l.take (insK l x) = l.takeWhile fun y => decide (y < x) := (List.prefix_iff_eq_take.1 (List.takeWhile_prefix _)).symm
 have h2 : l.drop (insK l x) = l.dropWhile fun y => decide (y < x) := drop_tw _ l
 have h3 : l[insK l x]? = (l.dropWhile fun y => decide (y < x)).head? := by rw [← h2, List.head?_drop]
 unfold insI
 rw [h3, h0, h2]
 dsimp only
 split
 ·exact List.takeWhile_append_dropWhile
 ·rfl
set_option maxHeartbeats 1000000 in
theorem rInsert (l : List Int) (x : Int) (hl : l.length ≤ 100000000) (R : RO) : CallsS Tryz.prog 115 [.sl 0 l.length, .val (.int .i64 x)] [.row 3 1 (l.map (.int .i64))] R fun R' bs r =>
  (insI l x = l ∧ bs = [.row 3 1 (l.map (.int .i64))] ∧ r = .sl 0 l.length) ∨ (∃ a b, bs = [.dead, .dead, a, b, .dead, .row 3 1 ((insI l x).map (.int .i64))] ∧ r = .sl 5 (insI l x).length) := by
 have hale := insK_le l x
 refine callsTS mix Tryz.func115 comp115 (by simp [Tryz.ntmps115]) rfl rfl ?_; simp only [go_sem, ↓reduceIte, nQ1, nQ2, nQ3, nQ4, nQ5, nQ6, reduceCtorEq, vc115, rs115]
 refine cutL (fun s' => ∃ env R1, s' = ⟨env, [.row 3 1 (l.map (.int .i64))], R1⟩ ∧ env 5 = .val (.int .i64 (insK l x)) ∧ env 0 = .sl 0 l.length ∧ env 1 = .val (.int .i64 x)) ?_ ?_
 ·refine vcLoop Nat (fun k => [(5, .val (.int .i64 k)), (0, .sl 0 l.length), (1, .val (.int .i64 x))]) (fun _ => [.row 3 1 (l.map (.int .i64))]) (fun k _ => k ≤ insK l x) (fun k => l.length - k) 0 ?_ ?_ ?_ ?_
  ·(try simp only [go_sem, ↓reduceIte, nQ1, nQ2, nQ3, nQ4, nQ5, nQ6, reduceCtorEq]) <;> (repeat' (first | rfl | trivial | constructor | (intro h; exact absurd rfl h)))
  ·rfl
  ·exact Nat.zero_le _
  rintro k env R1 hle1 hE hk
  (simp only [go_sem] at hE; obtain ⟨e5, e0, e1⟩ := hE; simp only [go_sem, ↓reduceIte, nQ1, nQ2, nQ3, nQ4, nQ5, nQ6, reduceCtorEq, e5, e0, e1]; dsimp only at *)
  refine ⟨fun hkl => ?_, fun hkg => ?_⟩
  ·have hkn : k < l.length := by omega
   refine ⟨hkl, .int .i64 l[k], by rw [List.getElem?_map, List.getElem?_eq_getElem hkn]; rfl, ?_⟩
   simp only [go_sem, ↓reduceIte, nQ1, nQ2, nQ3, nQ4, nQ5, nQ6, reduceCtorEq, e5, e0, e1]
   refine ⟨fun h1 => ?_, fun h1 => ?_⟩
   ·refine ⟨_, W.in64 (by omega), k + 1, by omega, by constructor, rfl, ?_⟩
    rcases Nat.lt_or_ge k (insK l x) with h2 | h2
    ·exact h2
    ·obtain rfl : k = insK l x := by omega
     exact absurd h1 (insK_not hkn)
   ·have : k = insK l x := by
     rcases Nat.lt_or_ge k (insK l x) with h2 | h2
     ·exact absurd (insK_less h2 hkn) h1
     ·omega
    rw [← this]
    exact ⟨_, _, rfl, e5, e0, e1⟩
  ·have : k = insK l x := by omega
   rw [← this]
   exact ⟨_, _, rfl, e5, e0, e1⟩
 rintro s' ⟨env, R1, rfl, e5, e0, e1⟩
 have hI := insI_eq l x
 obtain ⟨k, hk⟩ : ∃ k, k = insK l x := ⟨_, rfl⟩
 rw [← hk] at e5 hale hI
 rw [tCode_seq]
 refine cutT (fun s' => ∃ env R2, s' = ⟨env, [.row 3 1 (l.map (.int .i64))], R2⟩ ∧ l[k]? ≠ some x ∧ env 5 = .val (.int .i64 k) ∧ env 0 = .sl 0 l.length ∧ env 1 = .val (.int .i64 x)) ?_ ?_
 ·try simp only [go_sem, ↓reduceIte, nQ1, nQ2, nQ3, nQ4, nQ5, nQ6, reduceCtorEq, e5, e0, e1]
  refine ⟨fun hkl => ?_, fun hkg => ?_⟩
  ·have hkn : k < l.length := by omega
   refine ⟨hkl, .int .i64 l[k], by rw [List.getElem?_map, List.getElem?_eq_getElem hkn]; rfl, ?_⟩
   simp only [go_sem, ↓reduceIte, nQ1, nQ2, nQ3, nQ4, nQ5, nQ6, reduceCtorEq, e5, e0, e1]
   refine ⟨fun h1 => ?_, fun h1 => ?_⟩
   ·rw [if_pos (by rw [List.getElem?_eq_getElem hkn, h1])] at hI
    exact .inl ⟨hI, rfl⟩
   ·exact ⟨_, _, rfl, by rw [List.getElem?_eq_getElem hkn]; simpa using h1, e5, e0, e1⟩
  ·exact ⟨_, _, rfl, by rw [List.getElem?_eq_none (by omega)]; simp, e5, e0, e1⟩
 rintro s' ⟨env, R2, rfl, hnk, e5, e0, e1⟩
 rw [if_neg hnk] at hI
 have hone : ∀ (ys : List Int), ∀ u ∈ ys.map (Value.int .i64), u.oneCell' = true := fun ys u hu => by obtain ⟨_, _, rfl⟩ := List.mem_map.1 hu; rfl
 rw [tCode_seq]
 refine cutT (fun s' => ∃ env, s' = ⟨env, [.row 3 1 (l.map (.int .i64)), .dead, .row 3 1 ((l.drop k).map (.int .i64))], R2⟩ ∧ env 6 = .sl 2 (l.length - k) ∧ env 5 = .val (.int .i64 k) ∧ env 0 = .sl 0 l.length ∧ env 1 = .val (.int .i64 x)) ?_ ?_
 ·try simp only [go_sem, ↓reduceIte, nQ1, nQ2, nQ3, nQ4, nQ5, nQ6, reduceCtorEq, e5, e0, e1]
  refine ⟨k, l.length, rfl, rfl, by omega, ⟨_, _, ⟨rfl, rfl⟩, by simp⟩, ?_⟩
  by_cases hk0 : k = 0
  ·rw [if_pos hk0]
   subst hk0
   try simp only [go_sem, ↓reduceIte, nQ1, nQ2, nQ3, nQ4, nQ5, nQ6, reduceCtorEq, e5, e0, e1]
   refine ⟨by simp, fun u hu => hone _ u hu, ?_⟩
   refine vappO [] rfl rfl (by omega) ?_
   try simp only [go_sem, ↓reduceIte, nQ1, nQ2, nQ3, nQ4, nQ5, nQ6, reduceCtorEq, e5, e0, e1]
   rw [List.take_of_length_le (by simp)]
   exact ⟨_, rfl, rfl, e5, e0, e1⟩
  ·rw [if_neg hk0]
   try simp only [go_sem, ↓reduceIte, nQ1, nQ2, nQ3, nQ4, nQ5, nQ6, reduceCtorEq, e5, e0, e1]
   refine ⟨by simp; omega, fun u hu => hone _ u hu, ?_⟩
   refine vappO [] rfl rfl (by omega) ?_
   try simp only [go_sem, ↓reduceIte, nQ1, nQ2, nQ3, nQ4, nQ5, nQ6, reduceCtorEq, e5, e0, e1]
   rw [← List.map_drop, List.take_of_length_le (by simp)]
   exact ⟨_, rfl, rfl, e5, e0, e1⟩
 rintro s' ⟨env, rfl, e6, e5, e0, e1⟩
 try simp only [go_sem, ↓reduceIte, nQ1, nQ2, nQ3, nQ4, nQ5, nQ6, reduceCtorEq, e6, e5, e0, e1]
 refine ⟨0, k, rfl, rfl, by omega, ⟨_, _, ⟨rfl, rfl⟩, by simp; omega⟩, ?_⟩
 try simp only [go_sem, ↓reduceIte, nQ1, nQ2, nQ3, nQ4, nQ5, nQ6, reduceCtorEq, e6, e5, e0, e1]
 refine vappP ((l.take k).map (.int .i64)) (l.map (.int .i64)) rfl (by rw [List.map_take]; exact List.take_prefix _ _) (by simp; omega) (by omega) ?_
 try simp only [go_sem, ↓reduceIte, nQ1, nQ2, nQ3, nQ4, nQ5, nQ6, reduceCtorEq, e6, e5, e0, e1]
 refine ⟨by simp, fun u hu => hone _ u hu, ?_⟩
 refine vappO _ rfl (by simp; omega) (by omega) ?_
 try simp only [go_sem, ↓reduceIte, nQ1, nQ2, nQ3, nQ4, nQ5, nQ6, reduceCtorEq, e6, e5, e0, e1]
 rw [hI]
 refine .inr ⟨_, _, ⟨rfl, rfl, rfl, rfl, rfl, ?_⟩, ?_⟩
 ·have ht : ((l.drop k).map (Value.int .i64)).take (l.length - k) = (l.drop k).map (Value.int .i64) := List.take_of_length_le (by simp)
  rw [ht]
  simp only [List.map_append, List.map_cons, List.append_assoc, List.cons_append, List.nil_append]
  rfl
 ·congr 1
  simp; omega
def opB (k : Int) (a b : Bool) : Bool := if k = 0 then a || b else if k = 1 then a && b else a && !b
theorem rIn (k : Int) (a b : Bool) (R : RO) : CallsR Tryz.prog 95 [.int .i64 k, .bool a, .bool b] R fun _ v => v = .bool (opB k a b) := by
 refine callsT mix Tryz.func95 comp95 (by simp [Tryz.ntmps95]) ?_; simp only [go_sem, ↓reduceIte, nQ1, nQ2, nQ3, nQ4, nQ5, nQ6, reduceCtorEq, vc95, rs95]
 unfold opB
 refine ⟨fun h => ?_, fun h => ⟨fun h2 => ?_, fun h2 => ?_⟩⟩
 all_goals (cases a <;> cases b <;> simp_all)
end Go.Proofs.YtclkibjonbhldaaGreatDoor
/- Plain lemmas of our own, no statement of the seat: the reference's bounds of two lists. -/
namespace Go.Proofs.YtclkibjonbhldaaGreatDoor
set_option linter.unusedSimpArgs false
set_option linter.unusedVariables false
open Go.Proofs.YtclkibjonbhldaaGreatDoor.Vc
abbrev IntV := EncV (fun x : Int => [Value.int .i64 x]) 1
abbrev rowS (l : List Sp) : List Value := (l.map Sp.cells).flatten
theorem rowE_len {α : Type} {enc : α → List Value} {k : Nat} (hk : ∀ x, (enc x).length = k) (l : List α) : (l.map enc).flatten.length = l.length * k := by
 rw [length_flattenK (k := k) (fun us hus => by obtain ⟨x, _, rfl⟩ := List.mem_map.1 hus; exact hk x), List.length_map]
theorem rowS_len (l : List Sp) : (rowS l).length = l.length * 2 := rowE_len (enc := Sp.cells) (k := 2) (fun _ => rfl) l
theorem flat_get {α : Type} {k : Nat} {cs : List (List α)} (hk : ∀ us ∈ cs, us.length = k) (h0 : 0 < k) {i : Nat} {v : α} (h : cs.flatten[i]? = some v) : ∃ us, cs[i / k]? = some us ∧ us[i % k]? = some v := by
 have hlt := (List.getElem?_eq_some_iff.1 h).1
 rw [length_flattenK hk] at hlt
 have hq : i / k < cs.length := (Nat.div_lt_iff_lt_mul h0).2 hlt
 refine ⟨cs[i / k], List.getElem?_eq_getElem hq, ?_⟩
 have h1 := getElem?_flatten hk (i / k) (i % k) _ (List.getElem?_eq_getElem hq) (Nat.mod_lt _ h0)
 rw [Nat.mul_comm, Nat.div_add_mod] at h1
 rw [← h1]; exact h
theorem EncV.src {b : List Blk} {α : Type} {enc : α → List Value} {k : Nat} {R : RO} {a : Option Addr} {n cap : Nat} {xs : List α} (h : EncV enc k R (.slice a n cap) xs) (hn : n = xs.length) (h0 : 0 < k) (hk : ∀ x, (enc x).length = k) (h1 : ∀ x, ∀ u ∈ enc x, u.oneCell' = true) {kk : List Value → Prop} {t : Tok kk} (hkk : kk (xs.map enc).flatten) : SrcP (allR b R) k a n kk t := by
 obtain ⟨a', cap', e, _, hf⟩ := h.form
 simp only [Value.slice.injEq] at e
 obtain ⟨rfl, -, -⟩ := e
 subst hn
 refine vsrc _ (rowE_len hk xs) (fun u hu => ?_) (fun hne => ?_) hkk
 ·obtain ⟨c, hc, hu'⟩ := List.mem_flatten.1 hu
  obtain ⟨x, _, rfl⟩ := List.mem_map.1 hc
  exact h1 x u hu'
 ·have hl : 0 < xs.length := by
   rcases Nat.eq_zero_or_pos xs.length with h | h
   ·rw [List.eq_nil_of_length_eq_zero h] at hne; exact absurd rfl hne
   ·exact h
  obtain ⟨ad, ha, _⟩ := hf 0 hl
  refine ⟨ad, ha, fun i v hi => ?_⟩
  obtain ⟨us, hus, hu⟩ := flat_get (k := k) (fun us hus => by obtain ⟨x, _, rfl⟩ := List.mem_map.1 hus; exact hk x) h0 hi
  rw [List.getElem?_map] at hus
  obtain ⟨x, hx, rfl⟩ := Option.map_eq_some_iff.1 hus
  obtain ⟨hlt, rfl⟩ := List.getElem?_eq_some_iff.1 hx
  obtain ⟨ad', ha', hR⟩ := hf _ hlt
  rw [ha] at ha'
  simp only [Option.some.injEq] at ha'
  subst ha'
  have := hR _ _ hu
  rw [add_add, Nat.mul_comm, Nat.div_add_mod] at this
  exact this
theorem Sp.one (s : Sp) : ∀ u ∈ s.cells, u.oneCell' = true := by simp [Sp.cells, Value.oneCell']
theorem SpV.src {b : List Blk} {R : RO} {a : Option Addr} {n cap : Nat} {xs : List Sp} (h : SpV R (.slice a n cap) xs) (hn : n = xs.length) {kk : List Value → Prop} {t : Tok kk} (hkk : kk (rowS xs)) : SrcP (allR b R) 2 a n kk t := EncV.src h hn (by omega) (fun _ => rfl) Sp.one hkk
theorem rowS_get (l : List Sp) (i c : Nat) (hi : i < l.length) (hc : c < 2) : (rowS l)[i * 2 + c]? = (l[i].cells)[c]? := by
 induction l generalizing i with
 | nil => simp at hi
 | cons x l ih =>
  rw [show rowS (x :: l) = x.cells ++ rowS l from rfl]
  match i with
  | 0 => rw [List.getElem?_append_left (by simp [Sp.cells]; omega)]; simp
  | i + 1 =>
   rw [List.getElem?_append_right (by simp [Sp.cells]; omega)]
   simp only [Sp.cells, List.length_cons, List.length_nil, List.getElem_cons_succ]
   rw [show (i + 1) * 2 + c - (0 + 1 + 1) = i * 2 + c by omega]
   exact ih i (by simpa using hi)
theorem rowS_app (a b : List Sp) : rowS a ++ rowS b = rowS (a ++ b) := by unfold rowS; rw [List.map_append, List.flatten_append]
theorem insI_len (l : List Int) (x : Int) : (insI l x).length ≤ l.length + 1 := by
 have h := congrArg List.length (List.takeWhile_append_dropWhile (p := fun y => decide (y < x)) (l := l))
 rw [List.length_append] at h
 unfold insI
 dsimp only
 split <;> simp only [List.length_append, List.length_cons] <;> omega
def bnd (l : List Int) (s : Sp) : List Int := insI (insI l s.f) s.t
theorem bnd_facts (zs : List Sp) : ∀ l : List Int, Inc l → Inc (zs.foldl bnd l) ∧ (∀ y, y ∈ zs.foldl bnd l ↔ y ∈ l ∨ ∃ s ∈ zs, y = s.f ∨ y = s.t) ∧ (zs.foldl bnd l).length ≤ l.length + 2 * zs.length := by
 induction zs with
 | nil => intro l h; exact ⟨h, by simp, by simp⟩
 | cons z zs ih =>
  intro l h
  obtain ⟨h1, h2, h3⟩ := ih (bnd l z) (insI_inc (insI_inc h))
  refine ⟨h1, fun y => ?_, ?_⟩
  ·rw [List.foldl_cons, h2]
   unfold bnd
   rw [insI_mem, insI_mem]
   constructor
   ·rintro ((h | h | h) | ⟨s, hs, h⟩)
    ·exact .inr ⟨z, by simp, .inr h⟩
    ·exact .inr ⟨z, by simp, .inl h⟩
    ·exact .inl h
    ·exact .inr ⟨s, by simp [hs], h⟩
   ·rintro (h | ⟨s, hs, h⟩)
    ·exact .inl (.inr (.inr h))
    ·rcases List.mem_cons.1 hs with rfl | hs
     ·rcases h with h | h
      ·exact .inl (.inr (.inl h))
      ·exact .inl (.inl h)
     ·exact .inr ⟨s, hs, h⟩
  ·rw [List.foldl_cons, List.length_cons]
   have h4 := insI_len (insI l z.f) z.t
   have h5 := insI_len l z.f
   unfold bnd at h3 ⊢
   omega
theorem flat1 (l : List Int) : (l.map fun x => [Value.int .i64 x]).flatten = l.map (.int .i64) := by
 induction l with
 | nil => rfl
 | cons x l ih => rw [List.map_cons, List.flatten_cons, ih]; rfl
set_option maxHeartbeats 1000000 in
theorem rBounds (xs ys : List Sp) (v u : Value) (R : RO) (h : SpV R v xs) (k : SpV R u ys) (hl : xs.length + ys.length ≤ 10000000) : CallsR Tryz.prog 94 [v, u] R fun R' r => ∃ l, IntV R' r l ∧ Inc l ∧ (∀ y, y ∈ l ↔ ∃ s ∈ xs ++ ys, y = s.f ∨ y = s.t) ∧ l.length ≤ 2 * (xs.length + ys.length) := by
 obtain ⟨a, cap, rfl, hc, hf⟩ := h.form
 obtain ⟨b, cap', rfl, hc', hf'⟩ := k.form
 refine callsT mix Tryz.func94 comp94 (by simp [Tryz.ntmps94]) ?_; simp only [go_sem, ↓reduceIte, nQ1, nQ2, nQ3, nQ4, nQ5, nQ6, reduceCtorEq, vc94, rs94]
 refine h.src rfl ?_
 try simp only [go_sem, ↓reduceIte, nQ1, nQ2, nQ3, nQ4, nQ5, nQ6, reduceCtorEq]
 refine vappO [] rfl rfl (by omega) ?_
 try simp only [go_sem, ↓reduceIte, nQ1, nQ2, nQ3, nQ4, nQ5, nQ6, reduceCtorEq]
 refine k.src rfl ?_
 try simp only [go_sem, ↓reduceIte, nQ1, nQ2, nQ3, nQ4, nQ5, nQ6, reduceCtorEq]
 refine vappO (rowS xs) rfl (rowS_len xs) (by omega) ?_
 try simp only [go_sem, ↓reduceIte, nQ1, nQ2, nQ3, nQ4, nQ5, nQ6, reduceCtorEq]
 rw [rowS_app]
 obtain ⟨zs, hzs⟩ : ∃ zs, zs = xs ++ ys := ⟨_, rfl⟩
 have hzl : xs.length + ys.length = zs.length := by rw [hzs, List.length_append]
 rw [← hzs, hzl]
 rw [hzl] at hl
 obtain ⟨D, hD⟩ : ∃ D : Nat → List Int, D = fun i => (zs.take i).foldl bnd [] := ⟨_, rfl⟩
 have hD0 : D 0 = [] := by rw [hD]; rfl
 have hDs : ∀ (i : Nat) (hi : i < zs.length), D (i + 1) = insI (insI (D i) (zs[i]).f) (zs[i]).t := fun i hi => by
  rw [hD]
  simp only [List.take_succ_eq_append_getElem hi, List.foldl_append]
  rfl
 have hDl : ∀ i, i ≤ zs.length → (D i).length ≤ 2 * i := fun i hi => by
  have := (bnd_facts (zs.take i) [] List.Pairwise.nil).2.2
  rw [hD]
  simp only [List.length_take, List.length_nil] at this ⊢
  omega
 have hlen : (D zs.length).length ≤ 2 * zs.length := hDl _ (Nat.le_refl _)
 refine vcLoopR Nat (fun i => [(7, .val (.int .i64 i)), (5, .sl 0 (D i).length), (6, .sl 3 zs.length)]) (fun i => [.row 3 1 ((D i).map (.int .i64)), .dead, .dead, .row 32 2 (rowS zs)]) (fun i _ => i ≤ zs.length) (fun i => zs.length - i) 0 [] ?_ ?_ ?_ ?_
 ·rw [hD0]
  (try simp only [go_sem, ↓reduceIte, nQ1, nQ2, nQ3, nQ4, nQ5, nQ6, reduceCtorEq]) <;> (repeat' (first | rfl | trivial | constructor | (intro h; exact absurd rfl h)))
 ·try simp only [go_sem, ↓reduceIte, nQ1, nQ2, nQ3, nQ4, nQ5, nQ6, reduceCtorEq]
 ·exact Nat.zero_le _
 rintro i env R1 hle1 hE hi
 (simp only [go_sem] at hE; obtain ⟨e7, e5, e6⟩ := hE; simp only [go_sem, ↓reduceIte, nQ1, nQ2, nQ3, nQ4, nQ5, nQ6, reduceCtorEq, e7, e5, e6]; dsimp only at *)
 refine ⟨fun hlt => ?_, fun hge => ?_⟩
 ·have hlt' : i < zs.length := by omega
  have hDn := hDs i hlt'
  have hcf : (rowS zs)[i * 2]? = some (.int .i64 (zs[i]).f) := (rowS_get zs i 0 hlt' (by omega)).trans rfl
  have hct : (rowS zs)[i * 2 + 1]? = some (.int .i64 (zs[i]).t) := (rowS_get zs i 1 hlt' (by omega)).trans rfl
  refine ⟨hlt, _, hcf, ?_⟩
  have hl0 := hDl i (by omega)
  have hl1 := insI_len (D i) (zs[i]).f
  refine vhand [0] [.sl 0 (D i).length, .val (.int .i64 (zs[i]).f)] [.row 3 1 ((D i).map (.int .i64))] (rInsert (D i) (zs[i]).f (by omega) R1) rfl rfl rfl ?_ (by simp) rfl rfl ?_
  ·try simp only [go_sem, ↓reduceIte, nQ1, nQ2, nQ3, nQ4, nQ5, nQ6, reduceCtorEq]
  rintro R2 bs r hle2 hpost _
  rcases hpost with ⟨hs, rfl, rfl⟩ | ⟨b1, b2, rfl, rfl⟩
  ·simp only [go_sem, ↓reduceIte, nQ1, nQ2, nQ3, nQ4, nQ5, nQ6, reduceCtorEq, setG, rn, e7, e5, e6]
   rw [hs] at hDn
   refine ⟨hlt, _, hct, ?_⟩
   refine vhand [0] [.sl 0 (D i).length, .val (.int .i64 (zs[i]).t)] [.row 3 1 ((D i).map (.int .i64))] (rInsert (D i) (zs[i]).t (by omega) R2) rfl rfl rfl ?_ (by simp) rfl rfl ?_
   ·try simp only [go_sem, ↓reduceIte, nQ1, nQ2, nQ3, nQ4, nQ5, nQ6, reduceCtorEq]
    rfl
   rintro R3 bs r hle3 hpost _
   rcases hpost with ⟨hs', rfl, rfl⟩ | ⟨b1, b2, rfl, rfl⟩
   ·simp only [go_sem, ↓reduceIte, nQ1, nQ2, nQ3, nQ4, nQ5, nQ6, reduceCtorEq, setG, rn, e7, e5, e6]
    refine ⟨_, W.in64 (by omega), i + 1, [], ?_⟩
    rw [hDn, hs']
    try simp only [go_sem, ↓reduceIte, nQ1, nQ2, nQ3, nQ4, nQ5, nQ6, reduceCtorEq]
    exact ⟨by omega, ⟨rfl, rfl⟩, by decide, by omega⟩
   ·simp only [go_sem, ↓reduceIte, nQ1, nQ2, nQ3, nQ4, nQ5, nQ6, reduceCtorEq, setG, rn, e7, e5, e6]
    refine ⟨_, W.in64 (by omega), i + 1, [8, 1, 2, 3], ?_⟩
    rw [hDn]
    try simp only [go_sem, ↓reduceIte, nQ1, nQ2, nQ3, nQ4, nQ5, nQ6, reduceCtorEq]
    exact ⟨by omega, ⟨⟨rfl, rfl⟩, rfl⟩, by decide, by omega⟩
  ·simp only [go_sem, ↓reduceIte, nQ1, nQ2, nQ3, nQ4, nQ5, nQ6, reduceCtorEq, setG, rn, e7, e5, e6]
   refine ⟨hlt, _, hct, ?_⟩
   refine vhand [8] [.sl 0 (insI (D i) (zs[i]).f).length, .val (.int .i64 (zs[i]).t)] [.row 3 1 ((insI (D i) (zs[i]).f).map (.int .i64))] (rInsert (insI (D i) (zs[i]).f) (zs[i]).t (by omega) R2) rfl rfl rfl ?_ (by simp) rfl rfl ?_
   ·try simp only [go_sem, ↓reduceIte, nQ1, nQ2, nQ3, nQ4, nQ5, nQ6, reduceCtorEq]
    rfl
   rintro R3 bs r hle3 hpost _
   rcases hpost with ⟨hs', rfl, rfl⟩ | ⟨c1, c2, rfl, rfl⟩
   ·simp only [go_sem, ↓reduceIte, nQ1, nQ2, nQ3, nQ4, nQ5, nQ6, reduceCtorEq, setG, rn, e7, e5, e6]
    refine ⟨_, W.in64 (by omega), i + 1, [8, 1, 2, 3], ?_⟩
    rw [hDn, hs']
    try simp only [go_sem, ↓reduceIte, nQ1, nQ2, nQ3, nQ4, nQ5, nQ6, reduceCtorEq]
    exact ⟨by omega, ⟨rfl, rfl⟩, by decide, by omega⟩
   ·simp only [go_sem, ↓reduceIte, nQ1, nQ2, nQ3, nQ4, nQ5, nQ6, reduceCtorEq, setG, rn, e7, e5, e6]
    refine ⟨_, W.in64 (by omega), i + 1, [13, 1, 2, 3], ?_⟩
    rw [hDn]
    try simp only [go_sem, ↓reduceIte, nQ1, nQ2, nQ3, nQ4, nQ5, nQ6, reduceCtorEq]
    exact ⟨by omega, ⟨⟨rfl, rfl⟩, rfl⟩, by decide, by omega⟩
 ·obtain rfl : i = zs.length := by omega
  intro b cap' R' hle hrow hcap' hfr
  have hb := bnd_facts zs [] List.Pairwise.nil
  have hDz : D zs.length = zs.foldl bnd [] := by rw [hD]; simp
  refine ⟨_, RowIn.enc (fun _ => rfl) (by omega) (by rw [flat1]; exact hrow) (by rw [flat1]; omega) (by omega), ?_, fun y => ?_, hlen⟩
  ·rw [hDz]; exact hb.1
  ·rw [hDz, hb.2.1]; simp
end Go.Proofs.YtclkibjonbhldaaGreatDoor
/- Plain lemmas of our own, no statement of the seat: combining two lists of spans; the reference's Combine. -/
namespace Go.Proofs.YtclkibjonbhldaaGreatDoor
set_option linter.unusedSimpArgs false
set_option linter.unusedVariables false
open Go.Proofs.YtclkibjonbhldaaGreatDoor.Vc
/-! ### Plain -/
theorem memS_const {l : List Sp} {x0 x : Int} (h : x0 ≤ x) (hn : ∀ s ∈ l, (s.f ≤ x0 ∨ x < s.f) ∧ (s.t ≤ x0 ∨ x < s.t)) : memS l x = memS l x0 := by
 rw [Bool.eq_iff_iff, memS_iff, memS_iff]
 constructor
 ·rintro ⟨s, hs, h1, h2⟩
  obtain ⟨h3, h4⟩ := hn s hs
  exact ⟨s, hs, by omega, by omega⟩
 ·rintro ⟨s, hs, h1, h2⟩
  obtain ⟨h3, h4⟩ := hn s hs
  exact ⟨s, hs, by omega, by omega⟩
structure CutAt (all : List Int) (P : Int → Bool) : Prop where
 const : ∀ i (hi : i + 1 < all.length) x, all[i] ≤ x → x < all[i + 1] → P x = P all[i]
 lo : ∀ x, (∀ y ∈ all, x < y) → P x = false
 hi : ∀ x, (∀ y ∈ all, y ≤ x) → P x = false
theorem cut_of {all : List Int} {a b : List Sp} (hI : Inc all) (hm : ∀ y, y ∈ all ↔ ∃ s ∈ a ++ b, y = s.f ∨ y = s.t) (op : Bool → Bool → Bool) (h0 : op false false = false) : CutAt all fun x => op (memS a x) (memS b x) := by
 have hin : ∀ s ∈ a ++ b, s.f ∈ all ∧ s.t ∈ all := fun s hs => ⟨(hm _).2 ⟨s, hs, .inl rfl⟩, (hm _).2 ⟨s, hs, .inr rfl⟩⟩
 have hlo : ∀ l : List Sp, (∀ s ∈ l, s ∈ a ++ b) → ∀ x, (∀ y ∈ all, x < y) → memS l x = false := fun l hl x h => by
  cases hx : memS l x with
  | false => rfl
  | true =>
   obtain ⟨s, hs, h1, _⟩ := memS_iff.1 hx
   have := h _ (hin s (hl s hs)).1
   omega
 have hhi : ∀ l : List Sp, (∀ s ∈ l, s ∈ a ++ b) → ∀ x, (∀ y ∈ all, y ≤ x) → memS l x = false := fun l hl x h => by
  cases hx : memS l x with
  | false => rfl
  | true =>
   obtain ⟨s, hs, _, h1⟩ := memS_iff.1 hx
   have := h _ (hin s (hl s hs)).2
   omega
 have ha : ∀ s ∈ a, s ∈ a ++ b := fun s hs => by simp [hs]
 have hb : ∀ s ∈ b, s ∈ a ++ b := fun s hs => by simp [hs]
 refine ⟨fun i hi x h1 h2 => ?_, fun x h => ?_, fun x h => ?_⟩
 ·have hno : ∀ y ∈ all, y ≤ all[i] ∨ x < y := fun y hy => by
   obtain ⟨j, hj, rfl⟩ := List.mem_iff_getElem.1 hy
   rcases Nat.lt_trichotomy j i with h | h | h
   ·have := hI.get_lt h (by omega); omega
   ·subst h; exact .inl (by omega)
   ·rcases Nat.eq_or_lt_of_le (show i + 1 ≤ j by omega) with h | h
    ·subst h; exact .inr h2
    ·have := hI.get_lt h hj; omega
  have hc : ∀ l : List Sp, (∀ s ∈ l, s ∈ a ++ b) → memS l x = memS l all[i] := fun l hl => memS_const h1 fun s hs => ⟨hno _ (hin s (hl s hs)).1, hno _ (hin s (hl s hs)).2⟩
  show op _ _ = op _ _
  rw [hc a ha, hc b hb]
 ·show op _ _ = _
  rw [hlo a ha x h, hlo b hb x h, h0]
 ·show op _ _ = _
  rw [hhi a ha x h, hhi b hb x h, h0]
structure UpTo (P : Int → Bool) (out : List Sp) (t : Int) : Prop where
 nor : Normal out
 le : ∀ s ∈ out, s.t ≤ t
 mem : ∀ x, memS out x = (decide (x < t) && P x)
theorem UpTo.no {P : Int → Bool} {out : List Sp} {t u : Int} (h : UpTo P out t) (htu : t < u) (hc : ∀ x, t ≤ x → x < u → P x = P t) (hp : P t = false) : UpTo P out u :=
 ⟨h.nor, fun s hs => by have := h.le s hs; omega, fun x => by
  rw [h.mem]
  by_cases h1 : x < t
  ·rw [decide_eq_true h1, decide_eq_true (show x < u by omega)]
  ·rw [decide_eq_false h1, Bool.false_and]
   by_cases h2 : x < u
   ·rw [hc x (by omega) h2, hp, Bool.and_false]
   ·rw [decide_eq_false h2, Bool.false_and]⟩
theorem UpTo.new {P : Int → Bool} {out : List Sp} {t u : Int} (h : UpTo P out t) (htu : t < u) (hc : ∀ x, t ≤ x → x < u → P x = P t) (hp : P t = true) (hl : ∀ s ∈ out, s.t ≠ t) : UpTo P (out ++ [⟨t, u⟩]) u :=
 ⟨h.nor.snoc htu fun x hx => by have := h.le x hx; have := hl x hx; show _ < t; omega, fun s hs => by
  rcases List.mem_append.1 hs with hs | hs
  ·have := h.le s hs; omega
  ·simp only [List.mem_cons, List.not_mem_nil, or_false] at hs
   subst hs; exact Int.le_refl _, fun x => by
  rw [memS_app, h.mem, memS_cons, memS_nil, Bool.or_false]
  by_cases h1 : x < t
  ·rw [decide_eq_true h1, decide_eq_true (show x < u by omega), decide_eq_false (show ¬ t ≤ x by omega), Bool.false_and, Bool.or_false]
  ·rw [decide_eq_false h1, Bool.false_and, Bool.false_or, decide_eq_true (show t ≤ x by omega), Bool.true_and]
   by_cases h2 : x < u
   ·rw [hc x (by omega) h2, hp, Bool.and_true]
   ·rw [decide_eq_false h2, Bool.false_and]⟩
theorem UpTo.grow {P : Int → Bool} {out : List Sp} {s : Sp} {t u : Int} (h : UpTo P (out ++ [s]) t) (htu : t < u) (hc : ∀ x, t ≤ x → x < u → P x = P t) (hp : P t = true) (hl : s.t = t) : UpTo P (out ++ [⟨s.f, u⟩]) u :=
 have hs := h.nor.last
 ⟨hs.1.snoc (by show s.f < u; omega) fun x hx => hs.2.2 x hx, fun x hx => by
  rcases List.mem_append.1 hx with hx | hx
  ·have := h.le x (by simp [hx]); omega
  ·simp only [List.mem_cons, List.not_mem_nil, or_false] at hx
   subst hx; exact Int.le_refl _, fun x => by
  have h0 := h.mem x
  rw [memS_app, memS_cons, memS_nil, Bool.or_false] at h0
  rw [memS_app, memS_cons, memS_nil, Bool.or_false]
  show (memS out x || (decide (s.f ≤ x) && decide (x < u))) = _
  by_cases h1 : x < t
  ·have e : decide (x < s.t) = true := decide_eq_true (by omega)
   rw [e, decide_eq_true h1] at h0
   rw [decide_eq_true (show x < u by omega)]
   exact h0
  ·have hf : memS out x = false := by
    cases hx : memS out x with
    | false => rfl
    | true => rw [hx, decide_eq_false h1] at h0; simp at h0
   rw [hf, Bool.false_or, decide_eq_true (show s.f ≤ x by omega), Bool.true_and]
   by_cases h2 : x < u
   ·rw [hc x (by omega) h2, hp, Bool.and_true]
   ·rw [decide_eq_false h2, Bool.false_and]⟩
theorem UpTo.last_ne {P : Int → Bool} {out : List Sp} {t : Int} (h : UpTo P out t) (hl : ∀ (hn : 0 < out.length), (out[out.length - 1]'(by omega)).t ≠ t) : ∀ s ∈ out, s.t ≠ t := by
 intro s hs e
 obtain ⟨j, hj, rfl⟩ := List.mem_iff_getElem.1 hs
 by_cases hjl : j = out.length - 1
 ·subst hjl; exact hl (by omega) e
 ·have h1 := List.pairwise_iff_getElem.1 h.nor.ord j (out.length - 1) hj (by omega) (by omega)
  have h2 := h.nor.pos _ (List.getElem_mem (show out.length - 1 < out.length by omega))
  have h3 := h.le _ (List.getElem_mem (show out.length - 1 < out.length by omega))
  omega
theorem UpTo.start {all : List Int} {P : Int → Bool} (hI : Inc all) (hC : CutAt all P) (h : 0 < all.length) : UpTo P [] all[0] :=
 ⟨Normal.nil, by simp, fun x => by
  rw [memS_nil]
  by_cases h1 : x < all[0]
  ·rw [hC.lo x fun y hy => ?_, Bool.and_false]
   obtain ⟨j, hj, rfl⟩ := List.mem_iff_getElem.1 hy
   rcases Nat.eq_zero_or_pos j with h | h
   ·subst h; exact h1
   ·have := hI.get_lt h hj; omega
  ·rw [decide_eq_false h1, Bool.false_and]⟩
theorem UpTo.fin {all : List Int} {P : Int → Bool} (hI : Inc all) (hC : CutAt all P) {out : List Sp} {i : Nat} (hi : i + 1 = all.length) (h : UpTo P out (all[i]'(by omega))) : ∀ x, memS out x = P x := by
 intro x
 rw [h.mem]
 by_cases h1 : x < all[i]
 ·rw [decide_eq_true h1, Bool.true_and]
 ·rw [decide_eq_false h1, Bool.false_and]
  symm
  refine hC.hi x fun y hy => ?_
  obtain ⟨j, hj, rfl⟩ := List.mem_iff_getElem.1 hy
  rcases Nat.eq_or_lt_of_le (show j ≤ i by omega) with h | h
  ·subst h; omega
  ·have := hI.get_lt h (show i < all.length by omega); omega
theorem rowS_grow (o : List Sp) (s : Sp) (t : Int) : (rowS (o ++ [s])).set (((o ++ [s]).length - 1) * 2 + 1) (.int .i64 t) = rowS (o ++ [⟨s.f, t⟩]) := by
 rw [← rowS_app, ← rowS_app, List.set_append_right _ _ (by rw [rowS_len]; simp)]
 congr 1
 rw [rowS_len, List.length_append, show (o.length + [s].length - 1) * 2 + 1 - o.length * 2 = 1 by simp]
 rfl
theorem split_last {α : Type} (l : List α) (h : l.length - 1 < l.length) : l = l.take (l.length - 1) ++ [l[l.length - 1]] := by
 have h1 := List.take_succ_eq_append_getElem h
 rw [← h1, List.take_of_length_le (by omega)]
theorem opB_ff (k : Int) : opB k false false = false := by
 unfold opB
 split
 ·rfl
 ·split <;> rfl
set_option maxHeartbeats 1000000 in
theorem rCombine (k : Int) (xs ys : List Sp) (v u : Value) (R : RO) (h : SpV R v xs) (h' : SpV R u ys) (hl : xs.length + ys.length ≤ 10000000) : CallsR Tryz.prog 73 [.int .i64 k, v, u] R fun R' r => ∃ zs, SpV R' r zs ∧ Normal zs ∧ (∀ t, memS zs t = opB k (memS xs t) (memS ys t)) ∧ zs.length ≤ 2 * (xs.length + ys.length) := by
 have hB := rBounds xs ys v u R h h' hl
 have hA := fun t R' hle => rHasS xs t v R' (EncV.mono (R' := R') h hle)
 have hB' := fun t R' hle => rHasS ys t u R' (EncV.mono (R' := R') h' hle)
 obtain ⟨a, cap, rfl, hc, hf⟩ := h.form
 obtain ⟨b, cap', rfl, hc', hf'⟩ := h'.form
 refine callsT mix Tryz.func73 comp73 (by simp [Tryz.ntmps73]) ?_; simp only [go_sem, ↓reduceIte, nQ1, nQ2, nQ3, nQ4, nQ5, nQ6, reduceCtorEq, vc73, rs73]
 refine vcall hB ?_
 rintro R1 r hle1 ⟨all, hall, hI, hm, hlen⟩
 have hC := cut_of hI hm (opB k) (opB_ff k)
 obtain ⟨g, gcap, rfl, hgc, hg⟩ := hall.form
 obtain ⟨P, hP⟩ : ∃ P : Int → Bool, P = fun x => opB k (memS xs x) (memS ys x) := ⟨_, rfl⟩
 rw [← hP] at hC
 try simp only [go_sem, ↓reduceIte, nQ1, nQ2, nQ3, nQ4, nQ5, nQ6, reduceCtorEq]
 refine vcLoopR (Nat × List Sp) (fun x => [(9, .val (.int .i64 x.1)), (7, .val (.slice g all.length gcap)), (8, .sl 0 x.2.length), (0, .val (.int .i64 k)), (1, .val (.slice a xs.length cap)), (2, .val (.slice b ys.length cap'))]) (fun x => [.row 32 2 (rowS x.2)]) (fun x _ => x.2.length ≤ x.1 ∧ (x.1 < all.length ∨ x = (0, [])) ∧ ∀ hi : x.1 < all.length, UpTo P x.2 all[x.1]) (fun x => all.length - x.1) (0, []) [] ?_ ?_ ?_ ?_
 ·(try simp only [go_sem, ↓reduceIte, nQ1, nQ2, nQ3, nQ4, nQ5, nQ6, reduceCtorEq]) <;> (repeat' (first | rfl | trivial | constructor | (intro h; exact absurd rfl h)))
 ·try simp only [go_sem, ↓reduceIte, nQ1, nQ2, nQ3, nQ4, nQ5, nQ6, reduceCtorEq]
 ·exact ⟨Nat.le_refl _, .inr rfl, fun hi => UpTo.start hI hC hi⟩
 rintro ⟨i, out⟩ env R2 hle2 hE ⟨hol, hi, hU⟩
 (simp only [go_sem] at hE; obtain ⟨e9, e7, e8, e0, e1, e2⟩ := hE; simp only [go_sem, ↓reduceIte, nQ1, nQ2, nQ3, nQ4, nQ5, nQ6, reduceCtorEq, e9, e7, e8, e0, e1, e2]; dsimp only at *)
 have hil : i ≤ all.length := by rcases hi with h | h; omega; simp only [Prod.mk.injEq] at h; omega
 have hgR : ∀ (j : Nat) (hj : j < all.length), ∃ ad, g = some ad ∧ R1 (ad.add j) (.int .i64 all[j]) := fun j hj => by
  obtain ⟨ad, had, hR⟩ := hg j hj
  have := hR 0 _ rfl
  rw [add_add, Nat.mul_one, Nat.add_zero] at this
  exact ⟨ad, had, this⟩
 refine ⟨_, W.in64 (by omega), fun hlt => ⟨by omega, ?_⟩, fun hge => ?_⟩
 ·have hlt' : i + 1 < all.length := by omega
  have hU := hU (by omega)
  have htu : all[i] < all[i + 1] := hI.get_lt (by omega) hlt'
  have hcst := hC.const i hlt'
  obtain ⟨ad, had, hR⟩ := hgR i (by omega)
  obtain ⟨ad', had', hR'⟩ := hgR (i + 1) hlt'
  obtain ⟨t, ht⟩ : ∃ t, t = all[i] := ⟨_, rfl⟩
  obtain ⟨t2, ht2⟩ : ∃ t, t = all[i + 1] := ⟨_, rfl⟩
  rw [← ht] at hU htu hcst hR
  rw [← ht2] at htu hcst hR'
  refine vat ad had ?_
  try simp only [go_sem, ↓reduceIte, nQ1, nQ2, nQ3, nQ4, nQ5, nQ6, reduceCtorEq]
  refine vload _ (hle2 _ _ hR) ?_
  simp only [go_sem, ↓reduceIte, nQ1, nQ2, nQ3, nQ4, nQ5, nQ6, reduceCtorEq, e9, e7, e8, e0, e1, e2]
  refine vcall (hA t R2 (RO.le_trans hle1 hle2)) ?_
  rintro R3 r hle3 rfl
  simp only [go_sem, ↓reduceIte, nQ1, nQ2, nQ3, nQ4, nQ5, nQ6, reduceCtorEq, e9, e7, e8, e0, e1, e2]
  refine vcall (hB' t R3 (RO.le_trans hle1 (RO.le_trans hle2 hle3))) ?_
  rintro R4 r hle4 rfl
  simp only [go_sem, ↓reduceIte, nQ1, nQ2, nQ3, nQ4, nQ5, nQ6, reduceCtorEq, e9, e7, e8, e0, e1, e2]
  refine vcall (rIn k (memS xs t) (memS ys t) R4) ?_
  rintro R5 r hle5 rfl
  have hPt : opB k (memS xs t) (memS ys t) = P t := by rw [hP]
  rw [hPt]
  simp only [go_sem, ↓reduceIte, nQ1, nQ2, nQ3, nQ4, nQ5, nQ6, reduceCtorEq, e9, e7, e8, e0, e1, e2]
  have hnext : ∀ (h : i + 1 < all.length) (o : List Sp), UpTo P o t2 → UpTo P o (all[i + 1]'h) := fun h o hu => by rw [ht2] at hu; exact hu
  refine ⟨fun hp => ⟨_, W.in64 (by omega), (i + 1, out), [], (by show all.length - (i + 1) < _; omega), ⟨⟨rfl, rfl⟩, rfl⟩, by decide, (by show out.length ≤ i + 1; omega), .inl hlt', fun h => hnext h _ (hU.no htu hcst hp)⟩, fun hp => ⟨fun hpos => ?_, fun hneg => ?_⟩⟩
  ·have hn : out.length - 1 < out.length := by omega
   refine ⟨_, W.in64 (by omega), by omega, by omega, ?_⟩
   rw [show ((out.length : Int) - 1).toNat = out.length - 1 by omega]
   refine ⟨_, (rowS_get out (out.length - 1) 1 hn (by omega)).trans rfl, ?_⟩
   simp only [go_sem, ↓reduceIte, nQ1, nQ2, nQ3, nQ4, nQ5, nQ6, reduceCtorEq, e9, e7, e8, e0, e1, e2]
   refine ⟨fun hst => ?_, fun hst => ?_⟩
   ·obtain ⟨o, s, hos⟩ : ∃ o s, out = o ++ [s] := ⟨_, _, split_last out hn⟩
    have hs : out[out.length - 1] = s := by subst hos; simp
    rw [hs] at hst
    refine ⟨_, W.in64 (by omega), _, W.in64 (by omega), by omega, by omega, ?_⟩
    rw [show ((i : Int) + 1).toNat = i + 1 by omega]
    refine vat ad' had' ?_
    try simp only [go_sem, ↓reduceIte, nQ1, nQ2, nQ3, nQ4, nQ5, nQ6, reduceCtorEq]
    refine vload _ (hle5 _ _ (hle4 _ _ (hle3 _ _ (hle2 _ _ hR')))) ?_
    simp only [go_sem, ↓reduceIte, nQ1, nQ2, nQ3, nQ4, nQ5, nQ6, reduceCtorEq, e9, e7, e8, e0, e1, e2]
    refine ⟨by omega, by omega, by rw [rowS_len]; omega, _, W.in64 (by omega), (i + 1, o ++ [⟨s.f, t2⟩]), [], ?_⟩
    subst hos
    refine ⟨by show all.length - (i + 1) < _; omega, ⟨⟨rfl, ?_⟩, ?_⟩, by decide, ?_, .inl hlt', fun h => hnext h _ (hU.grow htu hcst hp hst)⟩
    ·rw [List.length_append, List.length_append]; rfl
    ·rw [show (((o ++ [s]).length : Int) - 1).toNat = (o ++ [s]).length - 1 by omega, rowS_grow]; rfl
    ·simp only [List.length_append, List.length_cons, List.length_nil] at hol ⊢; omega
   ·refine ⟨_, W.in64 (by omega), by omega, by omega, ?_⟩
    rw [show ((i : Int) + 1).toNat = i + 1 by omega]
    refine vat ad' had' ?_
    try simp only [go_sem, ↓reduceIte, nQ1, nQ2, nQ3, nQ4, nQ5, nQ6, reduceCtorEq]
    refine vload _ (hle5 _ _ (hle4 _ _ (hle3 _ _ (hle2 _ _ hR')))) ?_
    simp only [go_sem, ↓reduceIte, nQ1, nQ2, nQ3, nQ4, nQ5, nQ6, reduceCtorEq, e9, e7, e8, e0, e1, e2]
    refine vappO (rowS out) rfl (rowS_len out) (by omega) ?_
    simp only [go_sem, ↓reduceIte, nQ1, nQ2, nQ3, nQ4, nQ5, nQ6, reduceCtorEq, e9, e7, e8, e0, e1, e2]
    refine ⟨_, W.in64 (by omega), (i + 1, out ++ [⟨t, t2⟩]), [2], ?_⟩
    refine ⟨by show all.length - (i + 1) < _; omega, ⟨⟨rfl, ?_⟩, ?_⟩, by decide, ?_, .inl hlt', fun h => hnext h _ (hU.new htu hcst hp (hU.last_ne fun _ => hst))⟩
    ·rw [List.length_append]; rfl
    ·rw [← rowS_app]; rfl
    ·simp only [List.length_append, List.length_cons, List.length_nil]; omega
  ·have h0 : out = [] := List.eq_nil_of_length_eq_zero (by omega)
   subst h0
   simp only [go_sem, ↓reduceIte, nQ1, nQ2, nQ3, nQ4, nQ5, nQ6, reduceCtorEq, e9, e7, e8, e0, e1, e2]
   refine ⟨_, W.in64 (by omega), by omega, by omega, ?_⟩
   rw [show ((i : Int) + 1).toNat = i + 1 by omega]
   refine vat ad' had' ?_
   try simp only [go_sem, ↓reduceIte, nQ1, nQ2, nQ3, nQ4, nQ5, nQ6, reduceCtorEq]
   refine vload _ (hle5 _ _ (hle4 _ _ (hle3 _ _ (hle2 _ _ hR')))) ?_
   simp only [go_sem, ↓reduceIte, nQ1, nQ2, nQ3, nQ4, nQ5, nQ6, reduceCtorEq, e9, e7, e8, e0, e1, e2]
   refine vappO (rowS []) rfl (rowS_len []) (by omega) ?_
   simp only [go_sem, ↓reduceIte, nQ1, nQ2, nQ3, nQ4, nQ5, nQ6, reduceCtorEq, e9, e7, e8, e0, e1, e2]
   refine ⟨_, W.in64 (by omega), (i + 1, [⟨t, t2⟩]), [2], ?_⟩
   exact ⟨by show all.length - (i + 1) < _; omega, ⟨⟨rfl, rfl⟩, rfl⟩, by decide, (by show 1 ≤ i + 1; omega), .inl hlt', fun h => hnext h _ (hU.new htu hcst hp (by simp))⟩
 ·intro b' cap2 R' hle hrow hcap hfr
  have hmem : ∀ t, memS out t = P t := by
   rcases hi with h1 | h1
   ·exact UpTo.fin hI hC (by omega) (hU h1)
   ·simp only [Prod.mk.injEq] at h1
    obtain ⟨rfl, rfl⟩ := h1
    intro t
    rcases Nat.eq_zero_or_pos all.length with h2 | h2
    ·rw [memS_nil, hC.lo t (by rw [List.eq_nil_of_length_eq_zero h2]; simp)]
    ·exact UpTo.fin hI hC (by omega) (hU h2) t
  have hnor : Normal out := by
   rcases hi with h1 | h1
   ·exact (hU h1).nor
   ·simp only [Prod.mk.injEq] at h1
    obtain ⟨rfl, rfl⟩ := h1
    exact Normal.nil
  exact ⟨out, RowIn.enc (fun _ => rfl) (by omega) hrow hcap (by omega), hnor, fun t => by rw [hmem, hP], by omega⟩
end Go.Proofs.YtclkibjonbhldaaGreatDoor
/- Plain lemmas of our own, no statement of the seat: groups; which group a person belongs to. -/
namespace Go.Proofs.YtclkibjonbhldaaGreatDoor
set_option linter.unusedSimpArgs false
set_option linter.unusedVariables false
open Go.Proofs.YtclkibjonbhldaaGreatDoor.Vc
/-! ### Groups -/
/-- A list of lists of numbers in memory. -/
def GV (R : RO) (v : Value) (gs : List (List Int)) : Prop := ∃ hs : List Value, EncV (fun x : Value => [x]) 1 R v hs ∧ hs.length = gs.length ∧ ∀ i (h : i < hs.length) (h' : i < gs.length), IntV R hs[i] gs[i]
theorem GV.mono {R R' : RO} {v : Value} {gs : List (List Int)} (h : GV R v gs) (hle : RO.le R R') : GV R' v gs := by
 obtain ⟨hs, h1, h2, h3⟩ := h
 exact ⟨hs, h1.mono hle, h2, fun i h h' => (h3 i h h').mono hle⟩
theorem GV.form {R : RO} {v : Value} {gs : List (List Int)} (h : GV R v gs) : gs.length ≤ 1000000000 ∧ ∃ a cap, v = .slice a gs.length cap ∧ gs.length ≤ cap ∧ ∀ i (hi : i < gs.length), ∃ ad u, a = some ad ∧ R (ad.add i) u ∧ IntV R u gs[i] := by
 obtain ⟨hs, h1, h2, h3⟩ := h
 have hl := h1.2
 obtain ⟨a, cap, rfl, hc, hf⟩ := h1.form
 refine ⟨by omega, a, cap, by rw [h2], by omega, fun i hi => ?_⟩
 obtain ⟨ad, ha, hR⟩ := hf i (by omega)
 have := hR 0 _ rfl
 rw [add_add, Nat.mul_one, Nat.add_zero] at this
 exact ⟨ad, _, ha, this, h3 i (by omega) hi⟩
theorem IntV.form {R : RO} {v : Value} {xs : List Int} (h : IntV R v xs) : xs.length ≤ 1000000000 ∧ ∃ a cap, v = .slice a xs.length cap ∧ xs.length ≤ cap ∧ ∀ i (hi : i < xs.length), ∃ ad, a = some ad ∧ R (ad.add i) (.int .i64 xs[i]) := by
 have hl := h.2
 obtain ⟨a, cap, rfl, hc, hf⟩ := EncV.form h
 refine ⟨hl, a, cap, rfl, hc, fun i hi => ?_⟩
 obtain ⟨ad, ha, hR⟩ := hf i hi
 have := hR 0 _ rfl
 rw [add_add, Nat.mul_one, Nat.add_zero] at this
 exact ⟨ad, ha, this⟩
def grpOf (gs : List (List Int)) (p : Int) : Int := match gs.findIdx? fun g => g.contains p with
 | some i => i
 | none => -1 - p
theorem grpOf_here {gs : List (List Int)} {p : Int} {i : Nat} (hi : i < gs.length) (h : gs[i].contains p = true) (hno : ∀ j (hj : j < gs.length), j < i → gs[j].contains p = false) : grpOf gs p = i := by
 unfold grpOf
 rw [show gs.findIdx? (fun g => g.contains p) = some i from List.findIdx?_eq_some_iff_getElem.2 ⟨hi, h, fun j hj => by rw [hno j (by omega) hj]; simp⟩]
theorem grpOf_none {gs : List (List Int)} {p : Int} (hno : ∀ j (hj : j < gs.length), gs[j].contains p = false) : grpOf gs p = -1 - p := by
 unfold grpOf
 rw [List.findIdx?_eq_none_iff.2 fun g hg => by obtain ⟨j, hj, rfl⟩ := List.mem_iff_getElem.1 hg; exact hno j hj]
theorem rHas (xs : List Int) (p : Int) (v : Value) (R : RO) (h : IntV R v xs) : CallsR Tryz.prog 74 [v, .int .i64 p] R fun _ r => r = .bool (xs.contains p) := by
 obtain ⟨hxl, a, cap, rfl, hc, hg⟩ := h.form
 refine callsT mix Tryz.func74 comp74 (by simp [Tryz.ntmps74]) ?_; simp only [go_sem, ↓reduceIte, nQ1, nQ2, nQ3, nQ4, nQ5, nQ6, reduceCtorEq, vc74, rs74]
 refine vcLoop Nat (fun i => [(5, .val (.int .i64 i)), (0, .val (.slice a xs.length cap)), (1, .val (.int .i64 p))]) (fun _ => []) (fun i _ => i ≤ xs.length ∧ ∀ j (hj : j < xs.length), j < i → xs[j] ≠ p) (fun i => xs.length - i) 0 ?_ ?_ ?_ ?_
 ·(try simp only [go_sem, ↓reduceIte, nQ1, nQ2, nQ3, nQ4, nQ5, nQ6, reduceCtorEq]) <;> (repeat' (first | rfl | trivial | constructor | (intro h; exact absurd rfl h)))
 ·try simp only [go_sem, ↓reduceIte, nQ1, nQ2, nQ3, nQ4, nQ5, nQ6, reduceCtorEq]
 ·exact ⟨Nat.zero_le _, fun j _ hj => absurd hj (by omega)⟩
 rintro i env R1 hle1 hE ⟨hi, hno⟩
 (simp only [go_sem] at hE; obtain ⟨e5, e0, e1⟩ := hE; simp only [go_sem, ↓reduceIte, nQ1, nQ2, nQ3, nQ4, nQ5, nQ6, reduceCtorEq, e5, e0, e1]; dsimp only at *)
 refine ⟨fun hlt => ?_, fun hge => ?_⟩
 ·have hlt' : i < xs.length := by omega
  obtain ⟨ad, had, hR⟩ := hg i hlt'
  refine ⟨by omega, vat ad had ?_⟩
  try simp only [go_sem, ↓reduceIte, nQ1, nQ2, nQ3, nQ4, nQ5, nQ6, reduceCtorEq]
  refine vload _ (hle1 _ _ hR) ?_
  simp only [go_sem, ↓reduceIte, nQ1, nQ2, nQ3, nQ4, nQ5, nQ6, reduceCtorEq, e5, e0, e1]
  refine ⟨fun he => ?_, fun he => ?_⟩
  ·congr 1
   symm
   rw [List.contains_iff_mem]
   exact he ▸ List.getElem_mem hlt'
  ·refine ⟨_, W.in64 (by omega), i + 1, by omega, rfl, by omega, fun j hj hji => ?_⟩
   by_cases hij : j = i
   ·subst hij; exact he
   ·exact hno j hj (by omega)
 ·congr 1
  symm
  rw [← Bool.not_eq_true, List.contains_iff_mem]
  intro hm
  obtain ⟨j, hj, e⟩ := List.mem_iff_getElem.1 hm
  exact hno j hj (by omega) e
theorem rGroupOf (gs : List (List Int)) (p : Int) (hp : -1000000 ≤ p ∧ p ≤ 1000000) (v : Value) (R : RO) (h : GV R v gs) : CallsR Tryz.prog 38 [v, .int .i64 p] R fun _ r => r = .int .i64 (grpOf gs p) := by
 obtain ⟨hxl, a, cap, rfl, hc, hg⟩ := h.form
 refine callsT mix Tryz.func38 comp38 (by simp [Tryz.ntmps38]) ?_; simp only [go_sem, ↓reduceIte, nQ1, nQ2, nQ3, nQ4, nQ5, nQ6, reduceCtorEq, vc38, rs38]
 refine vcLoop Nat (fun i => [(5, .val (.int .i64 i)), (0, .val (.slice a gs.length cap)), (1, .val (.int .i64 p))]) (fun _ => []) (fun i _ => i ≤ gs.length ∧ ∀ j (hj : j < gs.length), j < i → gs[j].contains p = false) (fun i => gs.length - i) 0 ?_ ?_ ?_ ?_
 ·(try simp only [go_sem, ↓reduceIte, nQ1, nQ2, nQ3, nQ4, nQ5, nQ6, reduceCtorEq]) <;> (repeat' (first | rfl | trivial | constructor | (intro h; exact absurd rfl h)))
 ·try simp only [go_sem, ↓reduceIte, nQ1, nQ2, nQ3, nQ4, nQ5, nQ6, reduceCtorEq]
 ·exact ⟨Nat.zero_le _, fun j _ hj => absurd hj (by omega)⟩
 rintro i env R1 hle1 hE ⟨hi, hno⟩
 (simp only [go_sem] at hE; obtain ⟨e5, e0, e1⟩ := hE; simp only [go_sem, ↓reduceIte, nQ1, nQ2, nQ3, nQ4, nQ5, nQ6, reduceCtorEq, e5, e0, e1]; dsimp only at *)
 refine ⟨fun hlt => ?_, fun hge => ?_⟩
 ·have hlt' : i < gs.length := by omega
  obtain ⟨ad, u, had, hR, hu⟩ := hg i hlt'
  refine ⟨by omega, vat ad had ?_⟩
  try simp only [go_sem, ↓reduceIte, nQ1, nQ2, nQ3, nQ4, nQ5, nQ6, reduceCtorEq]
  refine vload _ (hle1 _ _ hR) ?_
  simp only [go_sem, ↓reduceIte, nQ1, nQ2, nQ3, nQ4, nQ5, nQ6, reduceCtorEq, e5, e0, e1]
  refine vcall (rHas gs[i] p u R1 (hu.mono hle1)) ?_
  rintro R2 r hle2 rfl
  simp only [go_sem, ↓reduceIte, nQ1, nQ2, nQ3, nQ4, nQ5, nQ6, reduceCtorEq, e5, e0, e1]
  refine ⟨fun he => ?_, fun he => ?_⟩
  ·rw [grpOf_here hlt' he hno]
  ·refine ⟨_, W.in64 (by omega), i + 1, by omega, rfl, by omega, fun j hj hji => ?_⟩
   by_cases hij : j = i
   ·subst hij; exact he
   ·exact hno j hj (by omega)
 ·refine ⟨_, W.in64 (by omega), ?_⟩
  rw [grpOf_none fun j hj => hno j hj (by omega)]
end Go.Proofs.YtclkibjonbhldaaGreatDoor
/- Plain lemmas of our own, no statement of the seat: budget.groupOf. -/
namespace Go.Proofs.YtclkibjonbhldaaGreatDoor
set_option linter.unusedSimpArgs false
set_option linter.unusedVariables false
open Go.Proofs.YtclkibjonbhldaaGreatDoor.Vc
theorem bIndexI (xs : List Int) (p : Int) (v : Value) (R : RO) (h : IntV R v xs) : CallsR Tryz.prog 97 [v, .int .i64 p] R fun _ r => ∃ k : Int, r = .int .i64 k ∧ (0 ≤ k ↔ xs.contains p = true) := by
 obtain ⟨hxl, a, cap, rfl, hc, hg⟩ := h.form
 refine callsT mix Tryz.func97 comp97 (by simp [Tryz.ntmps97]) ?_; simp only [go_sem, ↓reduceIte, nQ1, nQ2, nQ3, nQ4, nQ5, nQ6, reduceCtorEq, vc97, rs97]
 refine vcLoop Nat (fun i => [(8, .val (.int .i64 i)), (7, .val (.int .i64 xs.length)), (0, .val (.slice a xs.length cap)), (1, .val (.int .i64 p))]) (fun _ => []) (fun i _ => i ≤ xs.length ∧ ∀ j (hj : j < xs.length), j < i → xs[j] ≠ p) (fun i => xs.length - i) 0 ?_ ?_ ?_ ?_
 ·(try simp only [go_sem, ↓reduceIte, nQ1, nQ2, nQ3, nQ4, nQ5, nQ6, reduceCtorEq]) <;> (repeat' (first | rfl | trivial | constructor | (intro h; exact absurd rfl h)))
 ·try simp only [go_sem, ↓reduceIte, nQ1, nQ2, nQ3, nQ4, nQ5, nQ6, reduceCtorEq]
 ·exact ⟨Nat.zero_le _, fun j _ hj => absurd hj (by omega)⟩
 rintro i env R1 hle1 hE ⟨hi, hno⟩
 (simp only [go_sem] at hE; obtain ⟨e8, e7, e0, e1⟩ := hE; simp only [go_sem, ↓reduceIte, nQ1, nQ2, nQ3, nQ4, nQ5, nQ6, reduceCtorEq, e8, e7, e0, e1]; dsimp only at *)
 refine ⟨fun hlt => ?_, fun hge => ?_⟩
 ·have hlt' : i < xs.length := by omega
  obtain ⟨ad, had, hR⟩ := hg i hlt'
  refine ⟨by omega, vat ad had ?_⟩
  try simp only [go_sem, ↓reduceIte, nQ1, nQ2, nQ3, nQ4, nQ5, nQ6, reduceCtorEq]
  refine vload _ (hle1 _ _ hR) ?_
  simp only [go_sem, ↓reduceIte, nQ1, nQ2, nQ3, nQ4, nQ5, nQ6, reduceCtorEq, e8, e7, e0, e1]
  refine ⟨fun he => ?_, fun he => ?_⟩
  ·refine ⟨_, rfl, fun _ => ?_, fun _ => by omega⟩
   rw [List.contains_iff_mem, he]
   exact List.getElem_mem hlt'
  ·refine ⟨_, W.in64 (by omega), i + 1, by omega, rfl, by omega, fun j hj hji => ?_⟩
   by_cases hij : j = i
   ·subst hij; exact fun e => he e.symm
   ·exact hno j hj (by omega)
 ·refine ⟨_, rfl, fun h => absurd h (by decide), fun h => ?_⟩
  rw [List.contains_iff_mem] at h
  obtain ⟨j, hj, e⟩ := List.mem_iff_getElem.1 h
  exact absurd e (hno j hj (by omega))
theorem bContainsI (xs : List Int) (p : Int) (v : Value) (R : RO) (h : IntV R v xs) : CallsR Tryz.prog 78 [v, .int .i64 p] R fun _ r => r = .bool (xs.contains p) := by
 have hI := bIndexI xs p v R h
 refine callsT mix Tryz.func78 comp78 (by simp [Tryz.ntmps78]) ?_; simp only [go_sem, ↓reduceIte, nQ1, nQ2, nQ3, nQ4, nQ5, nQ6, reduceCtorEq, vc78, rs78]
 refine vcall hI ?_
 rintro R1 r hle1 ⟨k, rfl, hk⟩
 try simp only [go_sem, ↓reduceIte, nQ1, nQ2, nQ3, nQ4, nQ5, nQ6, reduceCtorEq]
 congr 1
 rw [Bool.eq_iff_iff, decide_eq_true_eq]
 exact hk
theorem bGroupOf1 (xs : List Int) (p : Int) (v : Value) (ad : Addr) (R : RO) (h : IntV R v xs) (hp : R ad (.int .i64 p)) : CallsR Tryz.prog 77 [v, .pointer (some ad)] R fun _ r => r = .bool (xs.contains p) := by
 have hC := fun R' hle => bContainsI xs p v R' (EncV.mono (R' := R') h hle)
 refine callsT mix Tryz.func77 comp77 (by simp [Tryz.ntmps77]) ?_; simp only [go_sem, ↓reduceIte, nQ1, nQ2, nQ3, nQ4, nQ5, nQ6, reduceCtorEq, vc77, rs77]
 refine vload _ hp ?_
 try simp only [go_sem, ↓reduceIte, nQ1, nQ2, nQ3, nQ4, nQ5, nQ6, reduceCtorEq]
 refine vcall (hC R (RO.le_refl _)) ?_
 rintro R1 r hle1 rfl
 try simp only [go_sem, ↓reduceIte, nQ1, nQ2, nQ3, nQ4, nQ5, nQ6, reduceCtorEq]
theorem bIndexG (f : FuncId) (caps : List Value) (hb : hasBody Tryz.prog f = true) (p : List Int → Bool) (gs : List (List Int)) (v : Value) (R : RO) (h : GV R v gs)
  (hf : ∀ (g : List Int) (u : Value) (R' : RO), RO.le R R' → IntV R' u g → CallsR Tryz.prog f ([u] ++ caps) R' fun _ u => u = .bool (p g)) : CallsR Tryz.prog 76 [v, .func (.func f) #[] caps.toArray] R fun _ u => u = .int .i64 (match gs.findIdx? p with | some i => (i : Int) | none => -1) := by
 obtain ⟨hxl, a, cap, rfl, hc, hg⟩ := h.form
 refine callsT mix Tryz.func76 comp76 (by simp [Tryz.ntmps76]) ?_; simp only [go_sem, ↓reduceIte, nQ1, nQ2, nQ3, nQ4, nQ5, nQ6, reduceCtorEq, vc76, rs76]
 refine vcLoop Nat (fun i => [(8, .val (.int .i64 i)), (7, .val (.int .i64 gs.length)), (0, .val (.slice a gs.length cap)), (1, .val (.func (.func f) #[] caps.toArray))]) (fun _ => []) (fun i _ => i ≤ gs.length ∧ ∀ j (hj : j < gs.length), j < i → p gs[j] = false) (fun i => gs.length - i) 0 ?_ ?_ ?_ ?_
 ·(try simp only [go_sem, ↓reduceIte, nQ1, nQ2, nQ3, nQ4, nQ5, nQ6, reduceCtorEq]) <;> (repeat' (first | rfl | trivial | constructor | (intro h; exact absurd rfl h)))
 ·try simp only [go_sem, ↓reduceIte, nQ1, nQ2, nQ3, nQ4, nQ5, nQ6, reduceCtorEq]
 ·exact ⟨Nat.zero_le _, fun j _ hj => absurd hj (by omega)⟩
 rintro i env R1 hle1 hE ⟨hi, hno⟩
 (simp only [go_sem] at hE; obtain ⟨e8, e7, e0, e1⟩ := hE; simp only [go_sem, ↓reduceIte, nQ1, nQ2, nQ3, nQ4, nQ5, nQ6, reduceCtorEq, e8, e7, e0, e1]; dsimp only at *)
 refine ⟨fun hlt => ?_, fun hge => ?_⟩
 ·have hlt' : i < gs.length := by omega
  obtain ⟨ad, u, had, hR, hu⟩ := hg i hlt'
  refine ⟨by omega, vat ad had ?_⟩
  try simp only [go_sem, ↓reduceIte, nQ1, nQ2, nQ3, nQ4, nQ5, nQ6, reduceCtorEq]
  refine vload _ (hle1 _ _ hR) ?_
  simp only [go_sem, ↓reduceIte, nQ1, nQ2, nQ3, nQ4, nQ5, nQ6, reduceCtorEq, e8, e7, e0, e1]
  refine ⟨hb, vcall (hf gs[i] u R1 hle1 (hu.mono hle1)) ?_⟩
  rintro R2 v hle2 rfl
  simp only [go_sem, ↓reduceIte, nQ1, nQ2, nQ3, nQ4, nQ5, nQ6, reduceCtorEq, e8, e7, e0, e1]
  refine ⟨fun hp => ?_, fun hp => ?_⟩
  ·rw [show gs.findIdx? p = some i from List.findIdx?_eq_some_iff_getElem.2 ⟨hlt', hp, fun j hj => by rw [hno j (by omega) hj]; simp⟩]
  ·refine ⟨_, W.in64 (by omega), i + 1, by omega, rfl, by omega, fun j hj hji => ?_⟩
   by_cases h : j = i
   ·subst h; exact hp
   ·exact hno j hj (by omega)
 ·rw [List.findIdx?_eq_none_iff.2 fun g hg => by obtain ⟨j, hj, rfl⟩ := List.mem_iff_getElem.1 hg; exact hno j hj (by omega)]
theorem bGroupOf (gs : List (List Int)) (p : Int) (hp : -1000000 ≤ p ∧ p ≤ 1000000) (v : Value) (R : RO) (h : GV R v gs) : CallsR Tryz.prog 43 [v, .int .i64 p] R fun _ r => r = .int .i64 (grpOf gs p) := by
 obtain ⟨hxl, a, cap, rfl, hc, hg⟩ := h.form
 refine callsT mix Tryz.func43 comp43 (by simp [Tryz.ntmps43]) ?_; simp only [go_sem, ↓reduceIte, nQ1, nQ2, nQ3, nQ4, nQ5, nQ6, reduceCtorEq, vc43, rs43]
 have hb1 : hasBody Tryz.prog 77 = true := by kernel_rfl
 refine vlend ?_
 intro β κ R1 hL
 have hbox := hL.2 0 _ rfl
 refine ⟨_, bIndexG 77 [.pointer (some ⟨β 0, 0, none⟩)] hb1 (fun g => g.contains p) gs _ R1 (h.mono hL.1) ?_, ?_⟩
 ·intro g u R2 hle2 hu
  exact bGroupOf1 g p u ⟨β 0, 0, none⟩ R2 hu (hle2 _ _ (hbox 0 _ rfl))
 rintro R2 r R3 hle2 rfl hle3 _
 try simp only [go_sem, ↓reduceIte, nQ1, nQ2, nQ3, nQ4, nQ5, nQ6, reduceCtorEq]
 cases hi : gs.findIdx? (fun g => g.contains p) with
 | some i =>
  have hil : i < gs.length := (List.findIdx?_eq_some_iff_getElem.1 hi).1
  try simp only [go_sem, ↓reduceIte, nQ1, nQ2, nQ3, nQ4, nQ5, nQ6, reduceCtorEq]
  unfold grpOf
  rw [hi]
 | none =>
  try simp only [go_sem, ↓reduceIte, nQ1, nQ2, nQ3, nQ4, nQ5, nQ6, reduceCtorEq]
  refine ⟨fun h => absurd h (by decide), fun _ => ⟨_, W.in64 (by omega), ?_⟩⟩
  unfold grpOf
  rw [hi]
end Go.Proofs.YtclkibjonbhldaaGreatDoor
/- Plain lemmas of our own, no statement of the seat: aligned lists. -/
namespace Go.Proofs.YtclkibjonbhldaaGreatDoor
set_option linter.unusedSimpArgs false
set_option linter.unusedVariables false
open Go.Proofs.YtclkibjonbhldaaGreatDoor.Vc
theorem rAligned (xs : List Sp) (n : Int) (hn : 0 < n) (v : Value) (R : RO) (h : SpV R v xs) : CallsR Tryz.prog 65 [v, .int .i64 n] R fun _ r => r = .bool (xs.all fun s => alignedB s n) := by
 have hxl := h.2
 obtain ⟨a, cap, rfl, hc, hg⟩ := h.form
 refine callsT mix Tryz.func65 comp65 (by simp [Tryz.ntmps65]) ?_; simp only [go_sem, ↓reduceIte, nQ1, nQ2, nQ3, nQ4, nQ5, nQ6, reduceCtorEq, vc65, rs65]
 have hbad : ∀ i (hi : i < xs.length), alignedB xs[i] n = false → Value.bool false = Value.bool (xs.all fun s => alignedB s n) := fun i hi hf => by
  congr 1
  symm
  rw [List.all_eq_false]
  exact ⟨xs[i], List.getElem_mem hi, by rw [hf]; simp⟩
 refine vcLoop Nat (fun i => [(5, .val (.int .i64 i)), (0, .val (.slice a xs.length cap)), (1, .val (.int .i64 n))]) (fun _ => []) (fun i _ => i ≤ xs.length ∧ ∀ s ∈ xs.take i, alignedB s n = true) (fun i => xs.length - i) 0 ?_ ?_ ?_ ?_
 ·(try simp only [go_sem, ↓reduceIte, nQ1, nQ2, nQ3, nQ4, nQ5, nQ6, reduceCtorEq]) <;> (repeat' (first | rfl | trivial | constructor | (intro h; exact absurd rfl h)))
 ·try simp only [go_sem, ↓reduceIte, nQ1, nQ2, nQ3, nQ4, nQ5, nQ6, reduceCtorEq]
 ·exact ⟨Nat.zero_le _, by simp⟩
 rintro i env R1 hle1 hE ⟨hi, hno⟩
 (simp only [go_sem] at hE; obtain ⟨e5, e0, e1⟩ := hE; simp only [go_sem, ↓reduceIte, nQ1, nQ2, nQ3, nQ4, nQ5, nQ6, reduceCtorEq, e5, e0, e1]; dsimp only at *)
 refine ⟨fun hlt => ?_, fun hge => ?_⟩
 ·have hlt' : i < xs.length := by omega
  obtain ⟨ad, had, hR⟩ := hg i hlt'
  have hb := hbad i hlt'
  have h1 := tmod0 (a := (xs[i]).f) hn
  have h2 := tmod0 (a := (xs[i]).t) hn
  refine ⟨by omega, vat ad had ?_⟩
  try simp only [go_sem, ↓reduceIte, nQ1, nQ2, nQ3, nQ4, nQ5, nQ6, reduceCtorEq]
  refine vload (.int .i64 (xs[i]).f) (hle1 _ _ (hR 0 _ rfl)) ?_
  simp only [go_sem, ↓reduceIte, nQ1, nQ2, nQ3, nQ4, nQ5, nQ6, reduceCtorEq, e5, e0, e1]
  refine ⟨by omega, fun hf0 => ⟨by omega, vat ad had ?_⟩, fun hf0 => hb (by unfold alignedB; rw [decide_eq_false (fun e => hf0 (h1.2 e))]; rfl)⟩
  try simp only [go_sem, ↓reduceIte, nQ1, nQ2, nQ3, nQ4, nQ5, nQ6, reduceCtorEq]
  refine vload (.int .i64 (xs[i]).t) (hle1 _ _ (hR 1 _ rfl)) ?_
  simp only [go_sem, ↓reduceIte, nQ1, nQ2, nQ3, nQ4, nQ5, nQ6, reduceCtorEq, e5, e0, e1]
  refine ⟨by omega, ?_⟩
  refine ⟨fun ht0 => hb (by unfold alignedB; rw [decide_eq_false (fun e => ht0 (h2.2 e)), Bool.and_false]), fun ht0 => ⟨_, W.in64 (by omega), i + 1, by omega, rfl, by omega, fun s hs => ?_⟩⟩
  rw [List.take_succ_eq_append_getElem hlt'] at hs
  rcases List.mem_append.1 hs with hs | hs
  ·exact hno s hs
  ·simp only [List.mem_cons, List.not_mem_nil, or_false] at hs
   subst hs
   unfold alignedB
   rw [decide_eq_true (h1.1 hf0), decide_eq_true (h2.1 ht0)]; rfl
 ·obtain rfl : i = xs.length := by omega
  rw [List.take_length] at hno
  congr 1
  symm
  rw [List.all_eq_true]
  exact hno
end Go.Proofs.YtclkibjonbhldaaGreatDoor
/- Plain lemmas of our own, no statement of the seat: valid groups. -/
namespace Go.Proofs.YtclkibjonbhldaaGreatDoor
set_option linter.unusedSimpArgs false
set_option linter.unusedVariables false
open Go.Proofs.YtclkibjonbhldaaGreatDoor.Vc
structure OkG (gs : List (List Int)) (i : Nat) (g : List Int) : Prop where
 ne : g ≠ []
 inc : Inc g
 mem : ∀ p ∈ g, personB p = true ∧ grpOf gs p = i
structure ValidG (gs : List (List Int)) : Prop where
 all : ∀ i (hi : i < gs.length), OkG gs i gs[i]
 len : gs.length ≤ 512
noncomputable def validG (gs : List (List Int)) : Bool := @decide (ValidG gs) (Classical.propDecidable _)
theorem validG_iff {gs : List (List Int)} : validG gs = true ↔ ValidG gs := @decide_eq_true_iff _ (Classical.propDecidable _)
theorem validG_false {gs : List (List Int)} (h : ¬ ValidG gs) : validG gs = false := @decide_eq_false _ (Classical.propDecidable _) h
set_option maxHeartbeats 1000000 in
theorem rValidGroups (gs : List (List Int)) (v : Value) (R : RO) (h : GV R v gs) : CallsR Tryz.prog 62 [v] R fun _ r => r = .bool (validG gs) := by
 obtain ⟨hxl, a, cap, rfl, hc, hg⟩ := h.form
 refine callsT mix Tryz.func62 comp62 (by simp [Tryz.ntmps62]) ?_; simp only [go_sem, ↓reduceIte, nQ1, nQ2, nQ3, nQ4, nQ5, nQ6, reduceCtorEq, vc62, rs62]
 have hbad : ¬ ValidG gs → Value.bool false = Value.bool (validG gs) := fun hn => by rw [validG_false hn]
 refine vcLoop Nat (fun i => [(3, .val (.int .i64 i)), (0, .val (.slice a gs.length cap))]) (fun _ => []) (fun i _ => i ≤ gs.length ∧ ∀ j (hj : j < gs.length), j < i → OkG gs j gs[j]) (fun i => gs.length - i) 0 ?_ ?_ ?_ ?_
 ·(try simp only [go_sem, ↓reduceIte, nQ1, nQ2, nQ3, nQ4, nQ5, nQ6, reduceCtorEq]) <;> (repeat' (first | rfl | trivial | constructor | (intro h; exact absurd rfl h)))
 ·try simp only [go_sem, ↓reduceIte, nQ1, nQ2, nQ3, nQ4, nQ5, nQ6, reduceCtorEq]
 ·exact ⟨Nat.zero_le _, fun j _ hj => absurd hj (by omega)⟩
 rintro i env R1 hle1 hE ⟨hi, hno⟩
 (simp only [go_sem] at hE; obtain ⟨e3, e0⟩ := hE; simp only [go_sem, ↓reduceIte, nQ1, nQ2, nQ3, nQ4, nQ5, nQ6, reduceCtorEq, e3, e0]; dsimp only at *)
 refine ⟨fun hlt => ?_, fun hge => ?_⟩
 ·have hlt' : i < gs.length := by omega
  obtain ⟨ad, u, had, hR, hu⟩ := hg i hlt'
  obtain ⟨hgl, b, bcap, rfl, hbc, hgb⟩ := hu.form
  refine ⟨by omega, vat ad had ?_⟩
  try simp only [go_sem, ↓reduceIte, nQ1, nQ2, nQ3, nQ4, nQ5, nQ6, reduceCtorEq]
  refine vload _ (hle1 _ _ hR) ?_
  simp only [go_sem, ↓reduceIte, nQ1, nQ2, nQ3, nQ4, nQ5, nQ6, reduceCtorEq, e3, e0]
  have hbi : ¬ OkG gs i gs[i] → Value.bool false = Value.bool (validG gs) := fun hn => hbad fun hV => hn (hV.all i hlt')
  refine ⟨fun h0 => hbi fun hO => hO.ne (List.eq_nil_of_length_eq_zero (by omega)), fun h0 => ?_⟩
  refine vcLoop Nat (fun k => [(4, .val (.int .i64 k)), (3, .val (.int .i64 i)), (0, .val (.slice a gs.length cap))]) (fun _ => []) (fun k _ => k ≤ gs[i].length ∧ Inc (gs[i].take k) ∧ ∀ p ∈ gs[i].take k, personB p = true ∧ grpOf gs p = i) (fun k => gs[i].length - k) 0 ?_ ?_ ?_ ?_
  ·(try simp only [go_sem, ↓reduceIte, nQ1, nQ2, nQ3, nQ4, nQ5, nQ6, reduceCtorEq]) <;> (repeat' (first | rfl | trivial | constructor | (intro h; exact absurd rfl h)))
  ·try simp only [go_sem, ↓reduceIte, nQ1, nQ2, nQ3, nQ4, nQ5, nQ6, reduceCtorEq]
  ·exact ⟨Nat.zero_le _, by simp [Inc], by simp⟩
  rintro k env R2 hle2 hE ⟨hk, hinc, hmem⟩
  (simp only [go_sem] at hE; obtain ⟨e4, e3', e0'⟩ := hE; simp only [go_sem, ↓reduceIte, nQ1, nQ2, nQ3, nQ4, nQ5, nQ6, reduceCtorEq, e4, e3', e0']; dsimp only at *)
  refine ⟨by omega, vat ad had ?_⟩
  try simp only [go_sem, ↓reduceIte, nQ1, nQ2, nQ3, nQ4, nQ5, nQ6, reduceCtorEq]
  refine vload _ (hle2 _ _ (hle1 _ _ hR)) ?_
  simp only [go_sem, ↓reduceIte, nQ1, nQ2, nQ3, nQ4, nQ5, nQ6, reduceCtorEq, e4, e3', e0']
  refine ⟨fun hlt2 => ?_, fun hge2 => ?_⟩
  ·have hlt3 : k < gs[i].length := by omega
   obtain ⟨ad2, had2, hR2⟩ := hgb k hlt3
   have hle2' := RO.le_trans hle1 hle2
   have hin : gs[i][k] ∈ gs[i] := List.getElem_mem hlt3
   refine ⟨by omega, vat ad had ?_⟩
   try simp only [go_sem, ↓reduceIte, nQ1, nQ2, nQ3, nQ4, nQ5, nQ6, reduceCtorEq]
   refine vload _ (hle2 _ _ (hle1 _ _ hR)) ?_
   simp only [go_sem, ↓reduceIte, nQ1, nQ2, nQ3, nQ4, nQ5, nQ6, reduceCtorEq, e4, e3', e0']
   refine ⟨by omega, vat ad2 had2 ?_⟩
   try simp only [go_sem, ↓reduceIte, nQ1, nQ2, nQ3, nQ4, nQ5, nQ6, reduceCtorEq]
   refine vload _ (hle2 _ _ (hle1 _ _ hR2)) ?_
   simp only [go_sem, ↓reduceIte, nQ1, nQ2, nQ3, nQ4, nQ5, nQ6, reduceCtorEq, e4, e3', e0']
   refine vcall (rPerson gs[i][k] R2) ?_
   rintro R3 r hle3 rfl
   simp only [go_sem, ↓reduceIte, nQ1, nQ2, nQ3, nQ4, nQ5, nQ6, reduceCtorEq, e4, e3', e0']
   have hfin : personB gs[i][k] = true → (∀ x ∈ gs[i].take k, x < gs[i][k]) → grpOf gs gs[i][k] = i → (Inc (gs[i].take (k + 1)) ∧ ∀ p ∈ gs[i].take (k + 1), personB p = true ∧ grpOf gs p = i) := fun h1 h2 h3 => by
    rw [List.take_succ_eq_append_getElem hlt3]
    refine ⟨List.pairwise_append.2 ⟨hinc, List.pairwise_singleton _ _, fun x hx y hy => ?_⟩, fun p hp => ?_⟩
    ·simp only [List.mem_cons, List.not_mem_nil, or_false] at hy
     subst hy; exact h2 x hx
    ·rcases List.mem_append.1 hp with hp | hp
     ·exact hmem p hp
     ·simp only [List.mem_cons, List.not_mem_nil, or_false] at hp
      subst hp; exact ⟨h1, h3⟩
   have hG := fun (hp : -1000000 ≤ gs[i][k] ∧ gs[i][k] ≤ 1000000) => rGroupOf gs gs[i][k] hp (.slice a gs.length cap) R3 (h.mono (RO.le_trans hle2' hle3))
   have hpb : personB gs[i][k] = true → -1000000 ≤ gs[i][k] ∧ gs[i][k] ≤ 1000000 := fun h => by
    unfold personB at h
    simp only [Bool.and_eq_true, decide_eq_true_eq] at h
    omega
   refine ⟨fun hp => ⟨fun hk0 => ?_, fun hk0 => ?_⟩, fun hp => hbi fun hO => by have := (hO.mem _ hin).1; rw [hp] at this; cases this⟩
   ·obtain ⟨ad3, had3, hR3⟩ := hgb (k - 1) (by omega)
    refine ⟨by omega, vat ad had ?_⟩
    try simp only [go_sem, ↓reduceIte, nQ1, nQ2, nQ3, nQ4, nQ5, nQ6, reduceCtorEq]
    refine vload _ (hle3 _ _ (hle2 _ _ (hle1 _ _ hR))) ?_
    simp only [go_sem, ↓reduceIte, nQ1, nQ2, nQ3, nQ4, nQ5, nQ6, reduceCtorEq, e4, e3', e0']
    refine ⟨_, W.in64 (by omega), by omega, by omega, ?_⟩
    rw [show ((k : Int) - 1).toNat = k - 1 by omega]
    refine vat ad3 had3 ?_
    try simp only [go_sem, ↓reduceIte, nQ1, nQ2, nQ3, nQ4, nQ5, nQ6, reduceCtorEq]
    refine vload _ (hle3 _ _ (hle2 _ _ (hle1 _ _ hR3))) ?_
    simp only [go_sem, ↓reduceIte, nQ1, nQ2, nQ3, nQ4, nQ5, nQ6, reduceCtorEq, e4, e3', e0']
    refine ⟨fun hlt4 => ?_, fun hge4 => hbi fun hO => ?_⟩
    ·refine vcall (hG (hpb hp)) ?_
     rintro R4 r hle4 rfl
     simp only [go_sem, ↓reduceIte, nQ1, nQ2, nQ3, nQ4, nQ5, nQ6, reduceCtorEq, e4, e3', e0']
     refine ⟨fun hne => hbi fun hO => hne (hO.mem _ hin).2, fun he => ⟨_, W.in64 (by omega), k + 1, by omega, rfl, by omega, hfin hp (fun x hx => ?_) he⟩⟩
     obtain ⟨j, hj, rfl⟩ := List.mem_take_iff_getElem.1 hx
     by_cases hjk : j = k - 1
     ·subst hjk; omega
     ·have h7 := List.pairwise_iff_getElem.1 hinc j (k - 1) (by rw [List.length_take]; omega) (by rw [List.length_take]; omega) (by omega)
      rw [List.getElem_take, List.getElem_take] at h7
      omega
    ·have := hO.inc.get_lt (show k - 1 < k by omega) hlt3
     omega
   ·refine vcall (hG (hpb hp)) ?_
    rintro R4 r hle4 rfl
    simp only [go_sem, ↓reduceIte, nQ1, nQ2, nQ3, nQ4, nQ5, nQ6, reduceCtorEq, e4, e3', e0']
    refine ⟨fun hne => hbi fun hO => hne (hO.mem _ hin).2, fun he => ⟨_, W.in64 (by omega), k + 1, by omega, rfl, by omega, hfin hp (fun x hx => ?_) he⟩⟩
    rw [show k = 0 by omega] at hx
    simp at hx
  ·obtain rfl : k = gs[i].length := by omega
   rw [List.take_length] at hinc hmem
   refine ⟨_, W.in64 (by omega), i + 1, by omega, ?_, by omega, fun j hj hji => ?_⟩
   ·try simp only [go_sem, ↓reduceIte, nQ1, nQ2, nQ3, nQ4, nQ5, nQ6, reduceCtorEq]
    rfl
   ·by_cases hij : j = i
    ·subst hij; exact ⟨fun e => h0 (by rw [e]; rfl), hinc, hmem⟩
    ·exact hno j hj (by omega)
 ·obtain rfl : i = gs.length := by omega
  congr 1
  rw [Bool.eq_iff_iff, decide_eq_true_eq, validG_iff]
  exact ⟨fun h => ⟨fun j hj => hno j hj hj, by omega⟩, fun h => by have := h.len; omega⟩
end Go.Proofs.YtclkibjonbhldaaGreatDoor
/- Plain lemmas of our own, no statement of the seat: budgets in memory. -/
namespace Go.Proofs.YtclkibjonbhldaaGreatDoor
set_option linter.unusedSimpArgs false
set_option linter.unusedVariables false
open Go.Proofs.YtclkibjonbhldaaGreatDoor.Vc
structure Se where
 group : Int
 grain : Int
 cells : List Sp
 deriving DecidableEq
def seCells (p : Se × Value) : List Value := [.int .i64 p.1.group, .int .i64 p.1.grain, p.2]
def SpentV (R : RO) (v : Value) (l : List Se) : Prop := ∃ ps : List (Se × Value), EncV seCells 3 R v ps ∧ ps.map (·.1) = l ∧ ∀ p ∈ ps, SpV R p.2 p.1.cells
theorem SpentV.mono {R R' : RO} {v : Value} {l : List Se} (h : SpentV R v l) (hle : RO.le R R') : SpentV R' v l := by
 obtain ⟨ps, h1, h2, h3⟩ := h
 exact ⟨ps, h1.mono hle, h2, fun p hp => (h3 p hp).mono hle⟩
theorem SpentV.form {R : RO} {v : Value} {l : List Se} (h : SpentV R v l) : l.length ≤ 1000000000 ∧ ∃ a cap, v = .slice a l.length cap ∧ l.length ≤ cap ∧ ∀ i (hi : i < l.length), ∃ ad u, a = some ad ∧ (∀ j w, (seCells (l[i], u))[j]? = some w → R ((ad.add (i * 3)).add j) w) ∧ SpV R u l[i].cells := by
 obtain ⟨ps, h1, rfl, h3⟩ := h
 have hl := h1.2
 obtain ⟨a, cap, rfl, hc, hf⟩ := h1.form
 refine ⟨by simpa using hl, a, cap, by rw [List.length_map], by simpa using hc, fun i hi => ?_⟩
 have hi' : i < ps.length := by simpa using hi
 obtain ⟨ad, ha, hR⟩ := hf i hi'
 refine ⟨ad, ps[i].2, ha, ?_, ?_⟩
 ·rw [List.getElem_map]; exact hR
 ·rw [List.getElem_map]; exact h3 _ (List.getElem_mem hi')
structure Bu where
 limit : Int
 groups : List (List Int)
 spent : List Se
def BuV (R : RO) (v : Value) (b : Bu) : Prop := ∃ gv sv, v = .agg #[.int .i64 b.limit, gv, sv] ∧ GV R gv b.groups ∧ SpentV R sv b.spent
theorem BuV.mono {R R' : RO} {v : Value} {b : Bu} (h : BuV R v b) (hle : RO.le R R') : BuV R' v b := by
 obtain ⟨gv, sv, e, h1, h2⟩ := h
 exact ⟨gv, sv, e, h1.mono hle, h2.mono hle⟩
end Go.Proofs.YtclkibjonbhldaaGreatDoor
namespace Go.Proofs.YtclkibjonbhldaaGreatDoor.Vc
set_option linter.unusedSimpArgs false
set_option linter.unusedVariables false
section
variable {K : Type} [DecidableEq K] (ks : Option (List Nat)) (kenc : K → Value)
def entOf (x : K × Value × Nat) : MapEntry := ⟨kenc x.1, x.2.1, x.2.2⟩
def MapOf (es : List MapEntry) (f : K → Option Value) : Prop :=
 ∃ l : List (K × Value × Nat), es = l.map (entOf kenc) ∧ (l.map (·.1)).Nodup ∧ ∀ k, f k = (l.find? fun x => decide (x.1 = k)).map (·.2.1)
theorem MapOf.nil : MapOf kenc [] (fun _ => none) := ⟨[], rfl, List.nodup_nil, fun _ => rfl⟩
variable (hks : ∀ a b : K, mEq ks (kenc a) (kenc b) = some (decide (a = b)))
include hks
theorem mfind_list (k : K) : ∀ (l : List (K × Value × Nat)) (i : Nat), ∃ r, mfind ks (kenc k) (l.map (entOf kenc)) i = some r ∧ r.map (·.2) = (l.find? fun x => decide (x.1 = k)).map (·.2.1) ∧
  ((r = none ∧ ∀ x ∈ l, x.1 ≠ k) ∨ ∃ (j : Nat) (x : K × Value × Nat), r = some (i + j, x.2.1) ∧ l[j]? = some x ∧ x.1 = k)
 | [], i => ⟨none, rfl, rfl, .inl ⟨rfl, by simp⟩⟩
 | x :: l, i => by
  rw [List.map_cons, mfind]
  simp only [entOf, hks]
  by_cases h : k = x.1
  ·rw [decide_eq_true h]
   exact ⟨_, rfl, by simp [h], .inr ⟨0, x, rfl, rfl, h.symm⟩⟩
  ·rw [decide_eq_false h]
   obtain ⟨r, h1, h2, h3⟩ := mfind_list k l (i + 1)
   refine ⟨r, h1, ?_, ?_⟩
   ·rw [h2, List.find?_cons, decide_eq_false (fun e => h e.symm)]
   ·rcases h3 with ⟨h3, h4⟩ | ⟨j, y, h3, h4, h5⟩
    ·exact .inl ⟨h3, fun y hy => by
      rcases List.mem_cons.1 hy with rfl | hy
      ·exact fun e => h e.symm
      ·exact h4 y hy⟩
    ·exact .inr ⟨j + 1, y, by rw [h3]; congr 2; omega, by simpa using h4, h5⟩
theorem MapOf.get {es : List MapEntry} {f : K → Option Value} (h : MapOf kenc es f) (k : K) : ∃ r, mfind ks (kenc k) es 0 = some r ∧ r.map (·.2) = f k := by
 obtain ⟨l, rfl, _, hf⟩ := h
 obtain ⟨r, h1, h2, _⟩ := mfind_list ks kenc hks k l 0
 exact ⟨r, h1, by rw [h2, hf]⟩
theorem MapOf.put {es : List MapEntry} {f : K → Option Value} (h : MapOf kenc es f) (k : K) (v : Value) (clock : Nat) : ∃ r es' clock', mfind ks (kenc k) es 0 = some r ∧ mset (kenc k) v es clock r = .mp es' clock' ∧ MapOf kenc es' (fun k' => if k' = k then some v else f k') := by
 obtain ⟨l, rfl, hnd, hf⟩ := h
 obtain ⟨r, h1, h2, h3⟩ := mfind_list ks kenc hks k l 0
 refine ⟨r, ?_⟩
 rcases h3 with ⟨rfl, h4⟩ | ⟨j, x, rfl, h4, h5⟩
 ·refine ⟨_, _, h1, rfl, l ++ [(k, v, clock)], by simp [entOf], ?_, fun k' => ?_⟩
  ·rw [List.map_append, List.nodup_append]
   refine ⟨hnd, by simp, fun a ha b hb e => ?_⟩
   simp only [List.map_cons, List.map_nil, List.mem_cons, List.not_mem_nil, or_false] at hb
   obtain ⟨x, hx, rfl⟩ := List.mem_map.1 ha
   exact h4 x hx (e.trans hb)
  ·show (if k' = k then some v else f k') = _
   rw [List.find?_append, hf]
   by_cases he : k' = k
   ·subst he
    rw [if_pos rfl]
    have : l.find? (fun x => decide (x.1 = k')) = none := List.find?_eq_none.2 fun x hx => by simpa using h4 x hx
    rw [this]
    simp
   ·rw [if_neg he]
    cases hq : l.find? (fun x => decide (x.1 = k')) with
    | some y => rfl
    | none => simp [Ne.symm he]
 ·subst h5
  have hj := (List.getElem?_eq_some_iff.1 h4).1
  have hx : l[j] = x := (List.getElem?_eq_some_iff.1 h4).2
  refine ⟨_, _, h1, rfl, l.set j (x.1, v, x.2.2), ?_, ?_, fun k' => ?_⟩
  ·apply List.ext_getElem?
   intro i
   rw [List.getElem?_modify, List.getElem?_map, List.getElem?_map, List.getElem?_set]
   by_cases hi : 0 + j = i
   ·have hi' : j = i := by omega
    subst hi'
    subst hx
    simp [hj, entOf]
   ·have hne : ¬ j = i := by omega
    cases l[i]? <;> simp [hne]
  ·have : (l.set j (x.1, v, x.2.2)).map (·.1) = l.map (·.1) := by
    apply List.ext_getElem?
    intro i
    rw [List.getElem?_map, List.getElem?_map, List.getElem?_set]
    by_cases hi : j = i
    ·subst hi; subst hx; simp [hj]
    ·rw [if_neg hi]
   rw [this]; exact hnd
  ·show (if k' = x.1 then some v else f k') = _
   rw [hf]
   -- the list around j
   have hsplit : l = l.take j ++ x :: l.drop (j + 1) := by
    rw [← hx, ← List.drop_eq_getElem_cons hj, List.take_append_drop]
   have hset : l.set j (x.1, v, x.2.2) = l.take j ++ (x.1, v, x.2.2) :: l.drop (j + 1) := List.set_eq_take_append_cons_drop.trans (by rw [if_pos hj])
   have hpre : ∀ y ∈ l.take j, y.1 ≠ x.1 := by
    intro y hy e
    rw [hsplit, List.map_append, List.nodup_append] at hnd
    exact hnd.2.2 y.1 (List.mem_map_of_mem (f := (·.1)) hy) x.1 (by simp) e
   by_cases he : k' = x.1
   ·subst he
    rw [if_pos rfl, hset, List.find?_append]
    have : (l.take j).find? (fun y => decide (y.1 = x.1)) = none := List.find?_eq_none.2 fun y hy => by simpa using hpre y hy
    rw [this]
    simp
   ·rw [if_neg he, hset]
    conv => lhs; rw [hsplit]
    rw [List.find?_append, List.find?_append, List.find?_cons, List.find?_cons, decide_eq_false (fun e => he e.symm)]
end
theorem mEq_int (a b : Int) : mEq none (.int .i64 a) (.int .i64 b) = some (decide (a = b)) := by
 by_cases h : a = b <;> simp [mEq, h]
def pairV (p : Int × Int) : Value := .agg #[.int .i64 p.1, .int .i64 p.2]
theorem mEq_pair (a b : Int × Int) : mEq (some [0, 0]) (pairV a) (pairV b) = some (decide (a = b)) := by
 obtain ⟨a1, a2⟩ := a
 obtain ⟨b1, b2⟩ := b
 simp only [mEq, pairV, eqCells, if_true, Option.map_some, Prod.mk.injEq]
 congr 1
 by_cases h : a1 = b1 <;> by_cases k : a2 = b2 <;> simp [h, k]
end Go.Proofs.YtclkibjonbhldaaGreatDoor.Vc
