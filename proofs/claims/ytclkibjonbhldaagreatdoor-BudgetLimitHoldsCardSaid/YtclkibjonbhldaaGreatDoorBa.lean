import Derived.Test.YtclkibjonbhldaaGreatDoorVa
import Derived.Test.YtclkibjonbhldaaGreatDoorVcI
import Derived.Test.YtclkibjonbhldaaGreatDoorNp
import Derived.Test.YtclkibjonbhldaaGreatDoorCt
/- Plain lemmas of our own, no statement of the seat: contracts of the small functions of the packages budget and span, and of their references. -/
namespace Go.Proofs.YtclkibjonbhldaaGreatDoor
set_option linter.unusedSimpArgs false
set_option linter.unusedVariables false
open Go.Proofs.YtclkibjonbhldaaGreatDoor.Vc
/-! ### Lists of things whose cells are known -/
def EncV {α : Type} (enc : α → List Value) (k : Nat) (R : RO) (v : Value) (xs : List α) : Prop := SlK R v k (xs.map enc) ∧ xs.length ≤ 1000000000
theorem EncV.mono {α : Type} {enc : α → List Value} {k : Nat} {R R' : RO} {v : Value} {xs : List α} (h : EncV enc k R v xs) (hle : RO.le R R') : EncV enc k R' v xs := ⟨h.1.mono hle, h.2⟩
theorem EncV.form {α : Type} {enc : α → List Value} {k : Nat} {R : RO} {v : Value} {xs : List α} (h : EncV enc k R v xs) : ∃ a cap, v = .slice a xs.length cap ∧ xs.length ≤ cap ∧ ∀ i (hi : i < xs.length), ∃ ad, a = some ad ∧ ∀ j u, (enc xs[i])[j]? = some u → R ((ad.add (i * k)).add j) u := by
  obtain ⟨⟨a, cap, rfl, hc, hf⟩, _⟩ := h
  rw [List.length_map] at hc
  refine ⟨a, cap, by rw [List.length_map], hc, fun i hi => ?_⟩
  obtain ⟨_, ad, ha, hR⟩ := hf i (enc xs[i]) (by rw [List.getElem?_map, List.getElem?_eq_getElem hi]; rfl)
  exact ⟨ad, ha, hR⟩
theorem EncV.nil {α : Type} (enc : α → List Value) (k : Nat) (R : RO) : EncV enc k R (.slice none 0 0) [] := ⟨⟨none, 0, rfl, Nat.le_refl _, by simp⟩, by simp⟩
theorem RowIn.enc {α : Type} {enc : α → List Value} {k : Nat} {R : RO} {b cap : Nat} {xs : List α} (hk : ∀ x, (enc x).length = k) (h0 : 0 < k) (h : RowIn R b (xs.map enc).flatten) (hc : (xs.map enc).flatten.length ≤ cap * k) (hl : xs.length ≤ 1000000000) : EncV enc k R (.slice (some ⟨b, 0, none⟩) xs.length cap) xs := by
  have h1 := RowIn.slK h (fun us hus => by obtain ⟨x, _, rfl⟩ := List.mem_map.1 hus; exact hk x) h0 hc
  rw [List.length_map] at h1
  exact ⟨h1, hl⟩
/-! ### Spans -/
structure Sp where
  f : Int
  t : Int
  deriving DecidableEq
def Sp.cells (s : Sp) : List Value := [.int .i64 s.f, .int .i64 s.t]
abbrev SpV := EncV Sp.cells 2
def farB (t : Int) : Bool := decide (t < -2251799813685248) || decide (2251799813685248 < t)
def rangedB (l : List Sp) : Bool := l.all fun s => !(farB s.f || farB s.t)
def Span (s : Sp) (t : Int) : Prop := s.f ≤ t ∧ t < s.t
/-! ### Small functions -/
theorem bNaN (a : Int) (R : RO) : CallsR Tryz.prog 112 [.int .i64 a] R fun _ v => v = .bool false := by
  refine callsT mix Tryz.func112 comp112 (by simp [Tryz.ntmps112]) ?_; simp only [go_sem, ↓reduceIte, Nat.reduceEqDiff, Nat.reduceAdd, Nat.reduceMul, Nat.reduceLeDiff, Nat.reduceLT, Nat.reduceBNe, reduceCtorEq, vc112, rs112]
def cmpI (a b : Int) : Int := if a < b then -1 else if b < a then 1 else 0
theorem bCompare (a b : Int) (R : RO) : CallsR Tryz.prog 89 [.int .i64 a, .int .i64 b] R fun _ v => v = .int .i64 (cmpI a b) := by
  refine callsT mix Tryz.func89 comp89 (by simp [Tryz.ntmps89]) ?_; simp only [go_sem, ↓reduceIte, Nat.reduceEqDiff, Nat.reduceAdd, Nat.reduceMul, Nat.reduceLeDiff, Nat.reduceLT, Nat.reduceBNe, reduceCtorEq, vc89, rs89]
  refine vcall (bNaN a R) ?_
  rintro R1 v h1 rfl
  try simp only [go_sem, ↓reduceIte, Nat.reduceEqDiff, Nat.reduceAdd, Nat.reduceMul, Nat.reduceLeDiff, Nat.reduceLT, Nat.reduceBNe, reduceCtorEq]
  refine vcall (bNaN b R1) ?_
  rintro R2 v h2 rfl
  try simp only [go_sem, ↓reduceIte, Nat.reduceEqDiff, Nat.reduceAdd, Nat.reduceMul, Nat.reduceLeDiff, Nat.reduceLT, Nat.reduceBNe, reduceCtorEq]
  unfold cmpI
  refine ⟨fun h => by simp [h], fun h => ⟨fun h' => by simp [h, h'], fun h' => by simp [h, h']⟩⟩
theorem bFar (t : Int) (R : RO) : CallsR Tryz.prog 111 [.int .i64 t] R fun _ v => v = .bool (farB t) := by
  refine callsT mix Tryz.func111 comp111 (by simp [Tryz.ntmps111]) ?_; simp only [go_sem, ↓reduceIte, Nat.reduceEqDiff, Nat.reduceAdd, Nat.reduceMul, Nat.reduceLeDiff, Nat.reduceLT, Nat.reduceBNe, reduceCtorEq, vc111, rs111]
  unfold farB
  refine ⟨fun h => by simp [h], fun h => by simp [h]⟩
theorem bFar2 (t : Int) (R : RO) : CallsR Tryz.prog 64 [.int .i64 t] R fun _ v => v = .bool (farB t) := by
  refine callsT mix Tryz.func64 comp64 (by simp [Tryz.ntmps64]) ?_; simp only [go_sem, ↓reduceIte, Nat.reduceEqDiff, Nat.reduceAdd, Nat.reduceMul, Nat.reduceLeDiff, Nat.reduceLT, Nat.reduceBNe, reduceCtorEq, vc64, rs64]
  unfold farB
  refine ⟨fun h => by simp [h], fun h => by simp [h]⟩
def personB (p : Int) : Bool := decide (0 ≤ p) && decide (p < 512)
theorem bPerson (p : Int) (R : RO) : CallsR Tryz.prog 40 [.int .i64 p] R fun _ v => v = .bool (personB p) := by
  refine callsT mix Tryz.func40 comp40 (by simp [Tryz.ntmps40]) ?_; simp only [go_sem, ↓reduceIte, Nat.reduceEqDiff, Nat.reduceAdd, Nat.reduceMul, Nat.reduceLeDiff, Nat.reduceLT, Nat.reduceBNe, reduceCtorEq, vc40, rs40]
  unfold personB
  refine ⟨fun h => by simp [h], fun h => by simp [h]⟩
theorem rPerson (p : Int) (R : RO) : CallsR Tryz.prog 51 [.int .i64 p] R fun _ v => v = .bool (personB p) := by
  refine callsT mix Tryz.func51 comp51 (by simp [Tryz.ntmps51]) ?_; simp only [go_sem, ↓reduceIte, Nat.reduceEqDiff, Nat.reduceAdd, Nat.reduceMul, Nat.reduceLeDiff, Nat.reduceLT, Nat.reduceBNe, reduceCtorEq, vc51, rs51]
  unfold personB
  refine ⟨fun h => by simp [h], fun h => by simp [h]⟩
def grainB (g : Int) : Bool := decide (1 ≤ g) && decide (g ≤ 4)
theorem bGrain (p : Int) (R : RO) : CallsR Tryz.prog 54 [.int .i64 p] R fun _ v => v = .bool (grainB p) := by
  refine callsT mix Tryz.func54 comp54 (by simp [Tryz.ntmps54]) ?_; simp only [go_sem, ↓reduceIte, Nat.reduceEqDiff, Nat.reduceAdd, Nat.reduceMul, Nat.reduceLeDiff, Nat.reduceLT, Nat.reduceBNe, reduceCtorEq, vc54, rs54]
  unfold grainB
  refine ⟨fun h => by simp [h], fun h => by simp [h]⟩
def sizeI (g : Int) : Int := if g = 1 then 1440 else if g = 2 ∨ g = 3 then 30 else 1
theorem rSize (g : Int) (R : RO) : CallsR Tryz.prog 25 [.int .i64 g] R fun _ v => v = .int .i64 (sizeI g) := by
  refine callsT mix Tryz.func25 comp25 (by simp [Tryz.ntmps25]) ?_; simp only [go_sem, ↓reduceIte, Nat.reduceEqDiff, Nat.reduceAdd, Nat.reduceMul, Nat.reduceLeDiff, Nat.reduceLT, Nat.reduceBNe, reduceCtorEq, vc25, rs25]
  unfold sizeI
  refine ⟨fun h => by simp [h], fun h => ⟨fun h2 => by simp [h2], fun h2 => ⟨fun h3 => by simp [h3], fun h3 => by simp [h, h2, h3]⟩⟩⟩
def alignedB (s : Sp) (n : Int) : Bool := decide (s.f % n = 0) && decide (s.t % n = 0)
theorem tmod0 {a n : Int} (hn : 0 < n) : a.tmod n = 0 ↔ a % n = 0 := by
  constructor
  · intro h; exact Int.emod_eq_zero_of_dvd (Int.dvd_of_tmod_eq_zero h)
  · intro h; exact Int.tmod_eq_zero_of_dvd (Int.dvd_of_emod_eq_zero h)
theorem bAligned (s : Sp) (n : Int) (hn : 0 < n) (R : RO) : CallsR Tryz.prog 58 [.agg s.cells.toArray, .int .i64 n] R fun _ v => v = .bool (alignedB s n) := by
  simp only [Sp.cells]
  refine callsT mix Tryz.func58 comp58 (by simp [Tryz.ntmps58]) ?_; simp only [go_sem, ↓reduceIte, Nat.reduceEqDiff, Nat.reduceAdd, Nat.reduceMul, Nat.reduceLeDiff, Nat.reduceLT, Nat.reduceBNe, reduceCtorEq, vc58, rs58]
  unfold alignedB
  have h1 := tmod0 (a := s.f) hn
  have h2 := tmod0 (a := s.t) hn
  refine ⟨by omega, fun h => ⟨by omega, ?_⟩, fun h => ?_⟩
  · rw [decide_eq_true (h1.1 h), Bool.true_and]; congr 1; rw [decide_eq_decide]; exact h2
  · rw [decide_eq_false (fun h3 => h (h1.2 h3))]; rfl
def floorI (a n : Int) : Int := a - a % n
theorem bFloor (a n : Int) (hn : 0 < n) (ha : -4503599627370496 ≤ a ∧ a ≤ 4503599627370496) (hn2 : n ≤ 1440) (R : RO) : CallsR Tryz.prog 93 [.int .i64 a, .int .i64 n] R fun _ v => v = .int .i64 (floorI a n) := by
  refine callsT mix Tryz.func93 comp93 (by simp [Tryz.ntmps93]) ?_; simp only [go_sem, ↓reduceIte, Nat.reduceEqDiff, Nat.reduceAdd, Nat.reduceMul, Nat.reduceLeDiff, Nat.reduceLT, Nat.reduceBNe, reduceCtorEq, vc93, rs93]
  unfold floorI
  have h1 := Int.tmod_lt_of_pos a hn
  have h2 : a.tmod n = a % n ∨ (a.tmod n < 0 ∧ a.tmod n + n = a % n) := by
    rcases Int.le_total 0 a with h | h
    · exact .inl (tmod_nonneg' h)
    · by_cases h0 : a % n = 0
      · exact .inl (by rw [h0]; exact (tmod0 hn).2 h0)
      · right
        have h3 : a.tmod n = a % n - n := by
          rw [Int.tmod_eq_emod]
          rw [if_neg (by
            intro hc
            rcases hc with hc | hc
            · exact h0 (by rw [show a = 0 by omega]; exact Int.zero_emod n)
            · exact h0 (Int.emod_eq_zero_of_dvd hc))]
          omega
        have := Int.emod_lt_of_pos a hn
        omega
  have h3 := Int.emod_nonneg a (show n ≠ 0 by omega)
  have h4 := Int.emod_lt_of_pos a hn
  refine ⟨by omega, fun h => ⟨_, W.in64 (by omega), _, W.in64 (by omega), ?_⟩, fun h => ⟨_, W.in64 (by omega), ?_⟩⟩
  · congr 1; omega
  · congr 1; omega
theorem bRanged1 (s : Sp) (R : RO) : CallsR Tryz.prog 110 [.agg s.cells.toArray] R fun _ v => v = .bool (farB s.f || farB s.t) := by
  simp only [Sp.cells]
  refine callsT mix Tryz.func110 comp110 (by simp [Tryz.ntmps110]) ?_; simp only [go_sem, ↓reduceIte, Nat.reduceEqDiff, Nat.reduceAdd, Nat.reduceMul, Nat.reduceLeDiff, Nat.reduceLT, Nat.reduceBNe, reduceCtorEq, vc110, rs110]
  refine vcall (bFar s.f R) ?_
  rintro R1 v h1 rfl
  try simp only [go_sem, ↓reduceIte, Nat.reduceEqDiff, Nat.reduceAdd, Nat.reduceMul, Nat.reduceLeDiff, Nat.reduceLT, Nat.reduceBNe, reduceCtorEq]
  refine ⟨fun h => ?_, fun h => by simp [h]⟩
  refine vcall (bFar s.t R1) ?_
  rintro R2 v h2 rfl
  try simp only [go_sem, ↓reduceIte, Nat.reduceEqDiff, Nat.reduceAdd, Nat.reduceMul, Nat.reduceLeDiff, Nat.reduceLT, Nat.reduceBNe, reduceCtorEq]
  simp [h]
/-! ### slices.IndexFunc, ContainsFunc at spans -/
theorem bIndexFunc (f : FuncId) (caps : List Value) (hb : hasBody Tryz.prog f = true) (p : Sp → Bool) (xs : List Sp) (v : Value) (R : RO) (h : SpV R v xs)
    (hf : ∀ (s : Sp) (R' : RO), RO.le R R' → CallsR Tryz.prog f ([.agg s.cells.toArray] ++ caps) R' fun _ u => u = .bool (p s)) : CallsR Tryz.prog 87 [v, .func (.func f) #[] caps.toArray] R fun _ u => ∃ k : Int, u = .int .i64 k ∧ (0 ≤ k ↔ xs.any p = true) := by
  have hxl := h.2
  obtain ⟨a, cap, rfl, hc, hg⟩ := h.form
  refine callsT mix Tryz.func87 comp87 (by simp [Tryz.ntmps87]) ?_; simp only [go_sem, ↓reduceIte, Nat.reduceEqDiff, Nat.reduceAdd, Nat.reduceMul, Nat.reduceLeDiff, Nat.reduceLT, Nat.reduceBNe, reduceCtorEq, vc87, rs87]
  refine vcLoop Nat (fun i => [(8, .val (.int .i64 i)), (7, .val (.int .i64 xs.length)), (0, .val (.slice a xs.length cap)), (1, .val (.func (.func f) #[] caps.toArray))]) (fun _ => []) (fun i _ => i ≤ xs.length ∧ ∀ j (hj : j < xs.length), j < i → p xs[j] = false) (fun i => xs.length - i) 0 ?_ ?_ ?_ ?_
  · (try simp only [go_sem, ↓reduceIte, Nat.reduceEqDiff, Nat.reduceAdd, Nat.reduceMul, Nat.reduceLeDiff, Nat.reduceLT, Nat.reduceBNe, reduceCtorEq]) <;> (repeat' (first | rfl | trivial | constructor | (intro h; exact absurd rfl h)))
  · try simp only [go_sem, ↓reduceIte, Nat.reduceEqDiff, Nat.reduceAdd, Nat.reduceMul, Nat.reduceLeDiff, Nat.reduceLT, Nat.reduceBNe, reduceCtorEq]
  · exact ⟨Nat.zero_le _, fun j _ hj => absurd hj (by omega)⟩
  rintro i env R1 hle1 hE ⟨hi, hno⟩
  (simp only [go_sem] at hE; obtain ⟨e8, e7, e0, e1⟩ := hE; simp only [go_sem, ↓reduceIte, Nat.reduceEqDiff, Nat.reduceAdd, Nat.reduceMul, Nat.reduceLeDiff, Nat.reduceLT, Nat.reduceBNe, reduceCtorEq, e8, e7, e0, e1]; dsimp only at *)
  refine ⟨fun hlt => ?_, fun hge => ?_⟩
  · have hlt' : i < xs.length := by omega
    obtain ⟨ad, had, hR⟩ := hg i hlt'
    refine ⟨by omega, vat ad had ?_⟩
    try simp only [go_sem, ↓reduceIte, Nat.reduceEqDiff, Nat.reduceAdd, Nat.reduceMul, Nat.reduceLeDiff, Nat.reduceLT, Nat.reduceBNe, reduceCtorEq]
    refine vloadn (xs[i]).cells rfl (fun j u hj => hle1 _ _ (hR j u hj)) ?_
    simp only [go_sem, ↓reduceIte, Nat.reduceEqDiff, Nat.reduceAdd, Nat.reduceMul, Nat.reduceLeDiff, Nat.reduceLT, Nat.reduceBNe, reduceCtorEq, e8, e7, e0, e1]
    refine ⟨hb, vcall (hf xs[i] R1 hle1) ?_⟩
    rintro R2 v hle2 rfl
    simp only [go_sem, ↓reduceIte, Nat.reduceEqDiff, Nat.reduceAdd, Nat.reduceMul, Nat.reduceLeDiff, Nat.reduceLT, Nat.reduceBNe, reduceCtorEq, e8, e7, e0, e1]
    refine ⟨fun hp => ⟨_, rfl, fun _ => List.any_eq_true.2 ⟨xs[i], List.getElem_mem hlt', hp⟩, fun _ => by omega⟩, fun hp => ?_⟩
    refine ⟨_, W.in64 (by omega), i + 1, by omega, ?_, by omega, fun j hj hji => ?_⟩
    · try simp only [go_sem, ↓reduceIte, Nat.reduceEqDiff, Nat.reduceAdd, Nat.reduceMul, Nat.reduceLeDiff, Nat.reduceLT, Nat.reduceBNe, reduceCtorEq]
      rfl
    · by_cases h : j = i
      · subst h; exact hp
      · exact hno j hj (by omega)
  · refine ⟨_, rfl, fun h => absurd h (by decide), fun h => ?_⟩
    obtain ⟨x, hx, hp⟩ := List.any_eq_true.1 h
    obtain ⟨j, hj, rfl⟩ := List.mem_iff_getElem.1 hx
    rw [hno j hj (by omega)] at hp
    cases hp
end Go.Proofs.YtclkibjonbhldaaGreatDoor
/- Plain lemmas of our own, no statement of the seat: sets of instants as normal lists of spans. -/
namespace Go.Proofs.YtclkibjonbhldaaGreatDoor
set_option linter.unusedSimpArgs false
set_option linter.unusedVariables false
open Go.Proofs.YtclkibjonbhldaaGreatDoor.Vc
/-! ### Normal lists: plain -/
def memS (l : List Sp) (t : Int) : Bool := l.any fun s => decide (s.f ≤ t) && decide (t < s.t)
structure Normal (l : List Sp) : Prop where
  pos : ∀ s ∈ l, s.f < s.t
  ord : l.Pairwise fun a b => a.t < b.f
theorem memS_iff {l : List Sp} {t : Int} : memS l t = true ↔ ∃ s ∈ l, s.f ≤ t ∧ t < s.t := by
  unfold memS
  rw [List.any_eq_true]
  simp only [Bool.and_eq_true, decide_eq_true_eq]
theorem memS_app (a b : List Sp) (t : Int) : memS (a ++ b) t = (memS a t || memS b t) := by unfold memS; rw [List.any_append]
theorem memS_cons (s : Sp) (l : List Sp) (t : Int) : memS (s :: l) t = ((decide (s.f ≤ t) && decide (t < s.t)) || memS l t) := rfl
theorem memS_nil (t : Int) : memS [] t = false := rfl
theorem Normal.nil : Normal [] := ⟨by simp, List.Pairwise.nil⟩
theorem Normal.tail {s : Sp} {l : List Sp} (h : Normal (s :: l)) : Normal l := ⟨fun x hx => h.pos x (by simp [hx]), (List.pairwise_cons.1 h.ord).2⟩
theorem Normal.ext : ∀ {a b : List Sp}, Normal a → Normal b → (∀ t, memS a t = memS b t) → a = b
  | [], [], _, _, _ => rfl
  | [], y :: b, _, hb, h => by
    have h1 := h y.f
    rw [memS_nil, memS_cons, decide_eq_true (Int.le_refl _), decide_eq_true (hb.pos y (by simp))] at h1
    simp at h1
  | x :: a, [], ha, _, h => by
    have h1 := h x.f
    rw [memS_nil, memS_cons, decide_eq_true (Int.le_refl _), decide_eq_true (ha.pos x (by simp))] at h1
    simp at h1
  | x :: a, y :: b, ha, hb, h => by
    have hx := ha.pos x (by simp)
    have hy := hb.pos y (by simp)
    have oa := (List.pairwise_cons.1 ha.ord).1
    have ob := (List.pairwise_cons.1 hb.ord).1
    have h1 : ∃ s ∈ y :: b, s.f ≤ x.f ∧ x.f < s.t := memS_iff.1 (by rw [← h]; exact memS_iff.2 ⟨x, by simp, Int.le_refl _, hx⟩)
    have h2 : ∃ s ∈ x :: a, s.f ≤ y.f ∧ y.f < s.t := memS_iff.1 (by rw [h]; exact memS_iff.2 ⟨y, by simp, Int.le_refl _, hy⟩)
    have hyx : y.f ≤ x.f := by
      obtain ⟨s, hs, h3, _⟩ := h1
      rcases List.mem_cons.1 hs with rfl | hs
      · exact h3
      · have := ob s hs; omega
    have hxy : x.f ≤ y.f := by
      obtain ⟨s, hs, h3, _⟩ := h2
      rcases List.mem_cons.1 hs with rfl | hs
      · exact h3
      · have := oa s hs; omega
    have hf : x.f = y.f := by omega
    have ht : x.t = y.t := by
      rcases Int.lt_trichotomy x.t y.t with h3 | h3 | h3
      · exfalso
        have h4 : memS (x :: a) x.t = true := by rw [h]; exact memS_iff.2 ⟨y, by simp, by omega, h3⟩
        obtain ⟨s, hs, h5, h6⟩ := memS_iff.1 h4
        rcases List.mem_cons.1 hs with rfl | hs
        · omega
        · have := oa s hs; omega
      · exact h3
      · exfalso
        have h4 : memS (y :: b) y.t = true := by rw [← h]; exact memS_iff.2 ⟨x, by simp, by omega, h3⟩
        obtain ⟨s, hs, h5, h6⟩ := memS_iff.1 h4
        rcases List.mem_cons.1 hs with rfl | hs
        · omega
        · have := ob s hs; omega
    have hxy' : x = y := by cases x; cases y; simp only at hf ht; subst hf ht; rfl
    subst hxy'
    have hrest : ∀ t, memS a t = memS b t := fun t => by
      have h3 := h t
      rw [memS_cons, memS_cons] at h3
      by_cases hin : t ≤ x.t
      · have ea : memS a t = false := by
          cases hm : memS a t with
          | false => rfl
          | true => obtain ⟨s, hs, h5, _⟩ := memS_iff.1 hm; have := oa s hs; omega
        have eb : memS b t = false := by
          cases hm : memS b t with
          | false => rfl
          | true => obtain ⟨s, hs, h5, _⟩ := memS_iff.1 hm; have := ob s hs; omega
        rw [ea, eb]
      · rw [decide_eq_false (show ¬ t < x.t by omega), Bool.and_false, Bool.false_or, Bool.false_or] at h3
        exact h3
    rw [Normal.ext ha.tail hb.tail hrest]
/-- A span behind a normal list: it stays normal, or its last one grows. -/
theorem Normal.snoc {l : List Sp} {s : Sp} (h : Normal l) (hs : s.f < s.t) (hb : ∀ x ∈ l, x.t < s.f) : Normal (l ++ [s]) :=
  ⟨fun x hx => by
    rcases List.mem_append.1 hx with hx | hx
    · exact h.pos x hx
    · simp only [List.mem_cons, List.not_mem_nil, or_false] at hx; subst hx; exact hs,
   List.pairwise_append.2 ⟨h.ord, List.pairwise_singleton _ _, fun x hx y hy => by simp only [List.mem_cons, List.not_mem_nil, or_false] at hy; subst hy; exact hb x hx⟩⟩
theorem Normal.last {l : List Sp} {s : Sp} (h : Normal (l ++ [s])) : Normal l ∧ s.f < s.t ∧ ∀ x ∈ l, x.t < s.f :=
  ⟨⟨fun x hx => h.pos x (List.mem_append.2 (.inl hx)), (List.pairwise_append.1 h.ord).1⟩, h.pos s (by simp), fun x hx => (List.pairwise_append.1 h.ord).2.2 x hx s (by simp)⟩
instance (l : List Sp) : Decidable (Normal l) := decidable_of_iff ((∀ s ∈ l, s.f < s.t) ∧ l.Pairwise fun a b => a.t < b.f) ⟨fun h => ⟨h.1, h.2⟩, fun h => ⟨h.pos, h.ord⟩⟩
/-- What Valid asks of a list's first i spans. -/
theorem normal_take {l : List Sp} {i : Nat} (hi : i < l.length) (h : Normal (l.take i)) (h1 : l[i].f < l[i].t) (h2 : 0 < i → (l[i - 1]'(by omega)).t < l[i].f) : Normal (l.take (i + 1)) := by
  rw [List.take_succ_eq_append_getElem hi]
  refine h.snoc h1 fun x hx => ?_
  obtain ⟨j, hj, rfl⟩ := List.mem_take_iff_getElem.1 hx
  by_cases hji : j = i - 1
  · subst hji; exact h2 (by omega)
  · have h3 := List.pairwise_iff_getElem.1 h.ord j (i - 1) (by simp; omega) (by simp; omega) (by omega)
    rw [List.getElem_take, List.getElem_take] at h3
    have h4 := h.pos (l[i - 1]'(by omega)) (List.mem_take_iff_getElem.2 ⟨i - 1, by omega, rfl⟩)
    have := h2 (by omega)
    omega
def validS (l : List Sp) : Bool := decide (Normal l) && rangedB l
/-! ### Valid, in range -/
theorem bRanged (l : List Sp) (v : Value) (R : RO) (h : SpV R v l) : CallsR Tryz.prog 86 [v] R fun _ r => r = .bool (rangedB l) := by
  have hI := bIndexFunc 110 [] (by kernel_rfl) (fun s => farB s.f || farB s.t) l
  obtain ⟨a, cap, rfl, hc, hg⟩ := h.form
  have hC : ∀ R', RO.le R R' → CallsR Tryz.prog 56 [.slice a l.length cap, .func (.func 110) #[] #[]] R' fun _ r => r = .bool (l.any fun s => farB s.f || farB s.t) := fun R' hle => by
    refine callsT mix Tryz.func56 comp56 (by simp [Tryz.ntmps56]) ?_; simp only [go_sem, ↓reduceIte, Nat.reduceEqDiff, Nat.reduceAdd, Nat.reduceMul, Nat.reduceLeDiff, Nat.reduceLT, Nat.reduceBNe, reduceCtorEq, vc56, rs56]
    refine vcall (hI _ R' (h.mono hle) fun s R'' _ => bRanged1 s R'') ?_
    rintro R1 u h1 ⟨k, rfl, hk⟩
    try simp only [go_sem, ↓reduceIte, Nat.reduceEqDiff, Nat.reduceAdd, Nat.reduceMul, Nat.reduceLeDiff, Nat.reduceLT, Nat.reduceBNe, reduceCtorEq]
    congr 1
    rw [Bool.eq_iff_iff, decide_eq_true_eq]
    exact hk
  refine callsT mix Tryz.func86 comp86 (by simp [Tryz.ntmps86]) ?_; simp only [go_sem, ↓reduceIte, Nat.reduceEqDiff, Nat.reduceAdd, Nat.reduceMul, Nat.reduceLeDiff, Nat.reduceLT, Nat.reduceBNe, reduceCtorEq, vc86, rs86]
  refine vcall (hC R (RO.le_refl _)) ?_
  rintro R1 u h1 rfl
  try simp only [go_sem, ↓reduceIte, Nat.reduceEqDiff, Nat.reduceAdd, Nat.reduceMul, Nat.reduceLeDiff, Nat.reduceLT, Nat.reduceBNe, reduceCtorEq]
  unfold rangedB
  congr 1
  rw [List.any_eq_not_all_not]; simp
end Go.Proofs.YtclkibjonbhldaaGreatDoor
/- Plain lemmas of our own, no statement of the seat: contracts of Valid, InRange, Has, Same at lists of spans. -/
namespace Go.Proofs.YtclkibjonbhldaaGreatDoor
set_option linter.unusedSimpArgs false
set_option linter.unusedVariables false
open Go.Proofs.YtclkibjonbhldaaGreatDoor.Vc
theorem bValidS (l : List Sp) (v : Value) (R : RO) (h : SpV R v l) : CallsR Tryz.prog 55 [v] R fun _ r => r = .bool (validS l) := by
  have hRg := fun R' hle => bRanged l v R' (EncV.mono (R' := R') h hle)
  have hxl := h.2
  obtain ⟨a, cap, rfl, hc, hg⟩ := h.form
  refine callsT mix Tryz.func55 comp55 (by simp [Tryz.ntmps55]) ?_; simp only [go_sem, ↓reduceIte, Nat.reduceEqDiff, Nat.reduceAdd, Nat.reduceMul, Nat.reduceLeDiff, Nat.reduceLT, Nat.reduceBNe, reduceCtorEq, vc55, rs55]
  have hbad : ¬ Normal l → Value.bool false = Value.bool (validS l) := fun hn => by
    unfold validS; rw [decide_eq_false hn]; rfl
  refine vcLoop Nat (fun i => [(7, .val (.int .i64 i)), (6, .val (.int .i64 l.length)), (5, .val (.slice a l.length cap)), (0, .val (.slice a l.length cap))]) (fun _ => []) (fun i _ => i ≤ l.length ∧ Normal (l.take i)) (fun i => l.length - i) 0 ?_ ?_ ?_ ?_
  · (try simp only [go_sem, ↓reduceIte, Nat.reduceEqDiff, Nat.reduceAdd, Nat.reduceMul, Nat.reduceLeDiff, Nat.reduceLT, Nat.reduceBNe, reduceCtorEq]) <;> (repeat' (first | rfl | trivial | constructor | (intro h; exact absurd rfl h)))
  · try simp only [go_sem, ↓reduceIte, Nat.reduceEqDiff, Nat.reduceAdd, Nat.reduceMul, Nat.reduceLeDiff, Nat.reduceLT, Nat.reduceBNe, reduceCtorEq]
  · exact ⟨Nat.zero_le _, Normal.nil⟩
  rintro i env R1 hle1 hE ⟨hi, hn⟩
  (simp only [go_sem] at hE; obtain ⟨e7, e6, e5, e0⟩ := hE; simp only [go_sem, ↓reduceIte, Nat.reduceEqDiff, Nat.reduceAdd, Nat.reduceMul, Nat.reduceLeDiff, Nat.reduceLT, Nat.reduceBNe, reduceCtorEq, e7, e6, e5, e0]; dsimp only at *)
  refine ⟨fun hlt => ?_, fun hge => ?_⟩
  · have hlt' : i < l.length := by omega
    obtain ⟨ad, had, hR⟩ := hg i hlt'
    refine ⟨by omega, vat ad had ?_⟩
    try simp only [go_sem, ↓reduceIte, Nat.reduceEqDiff, Nat.reduceAdd, Nat.reduceMul, Nat.reduceLeDiff, Nat.reduceLT, Nat.reduceBNe, reduceCtorEq]
    refine vloadn (l[i]).cells rfl (fun j u hj => hle1 _ _ (hR j u hj)) ?_
    simp only [go_sem, ↓reduceIte, Nat.reduceEqDiff, Nat.reduceAdd, Nat.reduceMul, Nat.reduceLeDiff, Nat.reduceLT, Nat.reduceBNe, reduceCtorEq, Sp.cells, e7, e6, e5, e0]
    refine ⟨fun h1 => ⟨fun h2 => ?_, fun h2 => ?_⟩, fun h1 => hbad fun hN => ?_⟩
    · obtain ⟨ad', had', hR'⟩ := hg (i - 1) (by omega)
      refine ⟨_, W.in64 (by omega), by omega, by omega, ?_⟩
      rw [show ((i : Int) - 1).toNat = i - 1 by omega]
      refine vat ad' had' ?_
      try simp only [go_sem, ↓reduceIte, Nat.reduceEqDiff, Nat.reduceAdd, Nat.reduceMul, Nat.reduceLeDiff, Nat.reduceLT, Nat.reduceBNe, reduceCtorEq]
      refine vload (.int .i64 (l[i - 1]).t) (hle1 _ _ (hR' 1 _ rfl)) ?_
      simp only [go_sem, ↓reduceIte, Nat.reduceEqDiff, Nat.reduceAdd, Nat.reduceMul, Nat.reduceLeDiff, Nat.reduceLT, Nat.reduceBNe, reduceCtorEq, e7, e6, e5, e0]
      refine ⟨fun h3 => hbad fun hN => ?_, fun h3 => ?_⟩
      · have := List.pairwise_iff_getElem.1 hN.ord (i - 1) i (by omega) hlt' (by omega); omega
      · refine ⟨_, W.in64 (by omega), i + 1, by omega, ?_, by omega, normal_take hlt' hn (by omega) (fun _ => by omega)⟩
        try simp only [go_sem, ↓reduceIte, Nat.reduceEqDiff, Nat.reduceAdd, Nat.reduceMul, Nat.reduceLeDiff, Nat.reduceLT, Nat.reduceBNe, reduceCtorEq]
        rfl
    · refine ⟨_, W.in64 (by omega), i + 1, by omega, ?_, by omega, normal_take hlt' hn (by omega) (fun _ => by omega)⟩
      try simp only [go_sem, ↓reduceIte, Nat.reduceEqDiff, Nat.reduceAdd, Nat.reduceMul, Nat.reduceLeDiff, Nat.reduceLT, Nat.reduceBNe, reduceCtorEq]
      rfl
    · have := hN.pos l[i] (List.getElem_mem hlt'); omega
  · obtain rfl : i = l.length := by omega
    rw [List.take_length] at hn
    refine vcall (hRg R1 hle1) ?_
    rintro R2 r hle2 rfl
    simp only [go_sem, ↓reduceIte, Nat.reduceEqDiff, Nat.reduceAdd, Nat.reduceMul, Nat.reduceLeDiff, Nat.reduceLT, Nat.reduceBNe, reduceCtorEq, e7, e6, e5, e0]
    unfold validS
    rw [decide_eq_true hn, Bool.true_and]
theorem rInRange (l : List Sp) (v : Value) (R : RO) (h : SpV R v l) : CallsR Tryz.prog 113 [v] R fun _ r => r = .bool (rangedB l) := by
  have hxl := h.2
  obtain ⟨a, cap, rfl, hc, hg⟩ := h.form
  refine callsT mix Tryz.func113 comp113 (by simp [Tryz.ntmps113]) ?_; simp only [go_sem, ↓reduceIte, Nat.reduceEqDiff, Nat.reduceAdd, Nat.reduceMul, Nat.reduceLeDiff, Nat.reduceLT, Nat.reduceBNe, reduceCtorEq, vc113, rs113]
  have hbad : ∀ i (hi : i < l.length), (farB l[i].f || farB l[i].t) = true → Value.bool false = Value.bool (rangedB l) := fun i hi hf => by
    congr 1
    symm
    unfold rangedB
    rw [List.all_eq_false]
    exact ⟨l[i], List.getElem_mem hi, by rw [hf]; simp⟩
  refine vcLoop Nat (fun i => [(3, .val (.int .i64 i)), (0, .val (.slice a l.length cap))]) (fun _ => []) (fun i _ => i ≤ l.length ∧ ∀ s ∈ l.take i, (farB s.f || farB s.t) = false) (fun i => l.length - i) 0 ?_ ?_ ?_ ?_
  · (try simp only [go_sem, ↓reduceIte, Nat.reduceEqDiff, Nat.reduceAdd, Nat.reduceMul, Nat.reduceLeDiff, Nat.reduceLT, Nat.reduceBNe, reduceCtorEq]) <;> (repeat' (first | rfl | trivial | constructor | (intro h; exact absurd rfl h)))
  · try simp only [go_sem, ↓reduceIte, Nat.reduceEqDiff, Nat.reduceAdd, Nat.reduceMul, Nat.reduceLeDiff, Nat.reduceLT, Nat.reduceBNe, reduceCtorEq]
  · exact ⟨Nat.zero_le _, by simp⟩
  rintro i env R1 hle1 hE ⟨hi, hn⟩
  (simp only [go_sem] at hE; obtain ⟨e3, e0⟩ := hE; simp only [go_sem, ↓reduceIte, Nat.reduceEqDiff, Nat.reduceAdd, Nat.reduceMul, Nat.reduceLeDiff, Nat.reduceLT, Nat.reduceBNe, reduceCtorEq, e3, e0]; dsimp only at *)
  refine ⟨fun hlt => ?_, fun hge => ?_⟩
  · have hlt' : i < l.length := by omega
    obtain ⟨ad, had, hR⟩ := hg i hlt'
    refine ⟨by omega, vat ad had ?_⟩
    try simp only [go_sem, ↓reduceIte, Nat.reduceEqDiff, Nat.reduceAdd, Nat.reduceMul, Nat.reduceLeDiff, Nat.reduceLT, Nat.reduceBNe, reduceCtorEq]
    refine vload (.int .i64 (l[i]).f) (hle1 _ _ (hR 0 _ rfl)) ?_
    simp only [go_sem, ↓reduceIte, Nat.reduceEqDiff, Nat.reduceAdd, Nat.reduceMul, Nat.reduceLeDiff, Nat.reduceLT, Nat.reduceBNe, reduceCtorEq, e3, e0]
    refine vcall (bFar2 (l[i]).f R1) ?_
    rintro R2 r hle2 rfl
    simp only [go_sem, ↓reduceIte, Nat.reduceEqDiff, Nat.reduceAdd, Nat.reduceMul, Nat.reduceLeDiff, Nat.reduceLT, Nat.reduceBNe, reduceCtorEq, e3, e0]
    have hb := hbad i hlt'
    refine ⟨fun h1 => ⟨by omega, vat ad had ?_⟩, fun h1 => hb (by rw [h1]; rfl)⟩
    try simp only [go_sem, ↓reduceIte, Nat.reduceEqDiff, Nat.reduceAdd, Nat.reduceMul, Nat.reduceLeDiff, Nat.reduceLT, Nat.reduceBNe, reduceCtorEq]
    refine vload (.int .i64 (l[i]).t) (hle2 _ _ (hle1 _ _ (hR 1 _ rfl))) ?_
    simp only [go_sem, ↓reduceIte, Nat.reduceEqDiff, Nat.reduceAdd, Nat.reduceMul, Nat.reduceLeDiff, Nat.reduceLT, Nat.reduceBNe, reduceCtorEq, e3, e0]
    refine vcall (bFar2 (l[i]).t R2) ?_
    rintro R3 r hle3 rfl
    simp only [go_sem, ↓reduceIte, Nat.reduceEqDiff, Nat.reduceAdd, Nat.reduceMul, Nat.reduceLeDiff, Nat.reduceLT, Nat.reduceBNe, reduceCtorEq, e3, e0]
    refine ⟨fun h2 => hb (by rw [h1, h2]; rfl), fun h2 => ?_⟩
    refine ⟨_, W.in64 (by omega), i + 1, by omega, ?_, by omega, fun s hs => ?_⟩
    · try simp only [go_sem, ↓reduceIte, Nat.reduceEqDiff, Nat.reduceAdd, Nat.reduceMul, Nat.reduceLeDiff, Nat.reduceLT, Nat.reduceBNe, reduceCtorEq]
      rfl
    · rw [List.take_succ_eq_append_getElem hlt'] at hs
      rcases List.mem_append.1 hs with hs | hs
      · exact hn s hs
      · simp only [List.mem_cons, List.not_mem_nil, or_false] at hs
        subst hs
        rw [h1, h2]; rfl
  · obtain rfl : i = l.length := by omega
    rw [List.take_length] at hn
    symm
    congr 1
    unfold rangedB
    rw [List.all_eq_true]
    intro s hs
    rw [hn s hs]; rfl
theorem rValidS (l : List Sp) (v : Value) (R : RO) (h : SpV R v l) : CallsR Tryz.prog 91 [v] R fun _ r => r = .bool (validS l) := by
  have hRg := fun R' hle => rInRange l v R' (EncV.mono (R' := R') h hle)
  have hxl := h.2
  obtain ⟨a, cap, rfl, hc, hg⟩ := h.form
  refine callsT mix Tryz.func91 comp91 (by simp [Tryz.ntmps91]) ?_; simp only [go_sem, ↓reduceIte, Nat.reduceEqDiff, Nat.reduceAdd, Nat.reduceMul, Nat.reduceLeDiff, Nat.reduceLT, Nat.reduceBNe, reduceCtorEq, vc91, rs91]
  have hbad : ¬ Normal l → Value.bool false = Value.bool (validS l) := fun hn => by
    unfold validS; rw [decide_eq_false hn]; rfl
  refine vcLoop Nat (fun i => [(3, .val (.int .i64 i)), (0, .val (.slice a l.length cap))]) (fun _ => []) (fun i _ => i ≤ l.length ∧ Normal (l.take i)) (fun i => l.length - i) 0 ?_ ?_ ?_ ?_
  · (try simp only [go_sem, ↓reduceIte, Nat.reduceEqDiff, Nat.reduceAdd, Nat.reduceMul, Nat.reduceLeDiff, Nat.reduceLT, Nat.reduceBNe, reduceCtorEq]) <;> (repeat' (first | rfl | trivial | constructor | (intro h; exact absurd rfl h)))
  · try simp only [go_sem, ↓reduceIte, Nat.reduceEqDiff, Nat.reduceAdd, Nat.reduceMul, Nat.reduceLeDiff, Nat.reduceLT, Nat.reduceBNe, reduceCtorEq]
  · exact ⟨Nat.zero_le _, Normal.nil⟩
  rintro i env R1 hle1 hE ⟨hi, hn⟩
  (simp only [go_sem] at hE; obtain ⟨e3, e0⟩ := hE; simp only [go_sem, ↓reduceIte, Nat.reduceEqDiff, Nat.reduceAdd, Nat.reduceMul, Nat.reduceLeDiff, Nat.reduceLT, Nat.reduceBNe, reduceCtorEq, e3, e0]; dsimp only at *)
  refine ⟨fun hlt => ?_, fun hge => ?_⟩
  · have hlt' : i < l.length := by omega
    obtain ⟨ad, had, hR⟩ := hg i hlt'
    have hR1 : R1 ((ad.add (i * 2)).add 0) (.int .i64 (l[i]).f) := hle1 _ _ (hR 0 _ rfl)
    have hR2 : R1 ((ad.add (i * 2)).add 1) (.int .i64 (l[i]).t) := hle1 _ _ (hR 1 _ rfl)
    refine ⟨by omega, vat ad had ?_⟩
    try simp only [go_sem, ↓reduceIte, Nat.reduceEqDiff, Nat.reduceAdd, Nat.reduceMul, Nat.reduceLeDiff, Nat.reduceLT, Nat.reduceBNe, reduceCtorEq]
    refine vload _ hR1 ?_
    simp only [go_sem, ↓reduceIte, Nat.reduceEqDiff, Nat.reduceAdd, Nat.reduceMul, Nat.reduceLeDiff, Nat.reduceLT, Nat.reduceBNe, reduceCtorEq, e3, e0]
    refine ⟨by omega, vat ad had ?_⟩
    try simp only [go_sem, ↓reduceIte, Nat.reduceEqDiff, Nat.reduceAdd, Nat.reduceMul, Nat.reduceLeDiff, Nat.reduceLT, Nat.reduceBNe, reduceCtorEq]
    refine vload _ hR2 ?_
    simp only [go_sem, ↓reduceIte, Nat.reduceEqDiff, Nat.reduceAdd, Nat.reduceMul, Nat.reduceLeDiff, Nat.reduceLT, Nat.reduceBNe, reduceCtorEq, e3, e0]
    refine ⟨fun h1 => ⟨fun h2 => ?_, fun h2 => ?_⟩, fun h1 => hbad fun hN => ?_⟩
    · obtain ⟨ad', had', hR'⟩ := hg (i - 1) (by omega)
      refine ⟨_, W.in64 (by omega), by omega, by omega, ?_⟩
      rw [show ((i : Int) - 1).toNat = i - 1 by omega]
      refine vat ad' had' ?_
      try simp only [go_sem, ↓reduceIte, Nat.reduceEqDiff, Nat.reduceAdd, Nat.reduceMul, Nat.reduceLeDiff, Nat.reduceLT, Nat.reduceBNe, reduceCtorEq]
      refine vload (.int .i64 (l[i - 1]).t) (hle1 _ _ (hR' 1 _ rfl)) ?_
      simp only [go_sem, ↓reduceIte, Nat.reduceEqDiff, Nat.reduceAdd, Nat.reduceMul, Nat.reduceLeDiff, Nat.reduceLT, Nat.reduceBNe, reduceCtorEq, e3, e0]
      refine ⟨by omega, vat ad had ?_⟩
      try simp only [go_sem, ↓reduceIte, Nat.reduceEqDiff, Nat.reduceAdd, Nat.reduceMul, Nat.reduceLeDiff, Nat.reduceLT, Nat.reduceBNe, reduceCtorEq]
      refine vload _ hR1 ?_
      simp only [go_sem, ↓reduceIte, Nat.reduceEqDiff, Nat.reduceAdd, Nat.reduceMul, Nat.reduceLeDiff, Nat.reduceLT, Nat.reduceBNe, reduceCtorEq, e3, e0]
      refine ⟨fun h3 => hbad fun hN => ?_, fun h3 => ?_⟩
      · have := List.pairwise_iff_getElem.1 hN.ord (i - 1) i (by omega) hlt' (by omega); omega
      · refine ⟨_, W.in64 (by omega), i + 1, by omega, ?_, by omega, normal_take hlt' hn (by omega) (fun _ => by omega)⟩
        try simp only [go_sem, ↓reduceIte, Nat.reduceEqDiff, Nat.reduceAdd, Nat.reduceMul, Nat.reduceLeDiff, Nat.reduceLT, Nat.reduceBNe, reduceCtorEq]
        rfl
    · refine ⟨_, W.in64 (by omega), i + 1, by omega, ?_, by omega, normal_take hlt' hn (by omega) (fun _ => by omega)⟩
      try simp only [go_sem, ↓reduceIte, Nat.reduceEqDiff, Nat.reduceAdd, Nat.reduceMul, Nat.reduceLeDiff, Nat.reduceLT, Nat.reduceBNe, reduceCtorEq]
      rfl
    · have := hN.pos l[i] (List.getElem_mem hlt'); omega
  · obtain rfl : i = l.length := by omega
    rw [List.take_length] at hn
    refine vcall (hRg R1 hle1) ?_
    rintro R2 r hle2 rfl
    simp only [go_sem, ↓reduceIte, Nat.reduceEqDiff, Nat.reduceAdd, Nat.reduceMul, Nat.reduceLeDiff, Nat.reduceLT, Nat.reduceBNe, reduceCtorEq, e3, e0]
    unfold validS
    rw [decide_eq_true hn, Bool.true_and]
theorem rHasS (l : List Sp) (t : Int) (v : Value) (R : RO) (h : SpV R v l) : CallsR Tryz.prog 96 [v, .int .i64 t] R fun _ r => r = .bool (memS l t) := by
  have hxl := h.2
  obtain ⟨a, cap, rfl, hc, hg⟩ := h.form
  refine callsT mix Tryz.func96 comp96 (by simp [Tryz.ntmps96]) ?_; simp only [go_sem, ↓reduceIte, Nat.reduceEqDiff, Nat.reduceAdd, Nat.reduceMul, Nat.reduceLeDiff, Nat.reduceLT, Nat.reduceBNe, reduceCtorEq, vc96, rs96]
  refine vcLoop Nat (fun i => [(5, .val (.int .i64 i)), (0, .val (.slice a l.length cap)), (1, .val (.int .i64 t))]) (fun _ => []) (fun i _ => i ≤ l.length ∧ memS (l.take i) t = false) (fun i => l.length - i) 0 ?_ ?_ ?_ ?_
  · (try simp only [go_sem, ↓reduceIte, Nat.reduceEqDiff, Nat.reduceAdd, Nat.reduceMul, Nat.reduceLeDiff, Nat.reduceLT, Nat.reduceBNe, reduceCtorEq]) <;> (repeat' (first | rfl | trivial | constructor | (intro h; exact absurd rfl h)))
  · try simp only [go_sem, ↓reduceIte, Nat.reduceEqDiff, Nat.reduceAdd, Nat.reduceMul, Nat.reduceLeDiff, Nat.reduceLT, Nat.reduceBNe, reduceCtorEq]
  · exact ⟨Nat.zero_le _, rfl⟩
  rintro i env R1 hle1 hE ⟨hi, hn⟩
  (simp only [go_sem] at hE; obtain ⟨e5, e0, e1⟩ := hE; simp only [go_sem, ↓reduceIte, Nat.reduceEqDiff, Nat.reduceAdd, Nat.reduceMul, Nat.reduceLeDiff, Nat.reduceLT, Nat.reduceBNe, reduceCtorEq, e5, e0, e1]; dsimp only at *)
  refine ⟨fun hlt => ?_, fun hge => ?_⟩
  · have hlt' : i < l.length := by omega
    obtain ⟨ad, had, hR⟩ := hg i hlt'
    have hs : memS (l.take (i + 1)) t = (decide (l[i].f ≤ t) && decide (t < l[i].t)) := by
      rw [List.take_succ_eq_append_getElem hlt', memS_app, hn, Bool.false_or, memS_cons, memS_nil, Bool.or_false]
    refine ⟨by omega, vat ad had ?_⟩
    try simp only [go_sem, ↓reduceIte, Nat.reduceEqDiff, Nat.reduceAdd, Nat.reduceMul, Nat.reduceLeDiff, Nat.reduceLT, Nat.reduceBNe, reduceCtorEq]
    refine vload (.int .i64 (l[i]).f) (hle1 _ _ (hR 0 _ rfl)) ?_
    simp only [go_sem, ↓reduceIte, Nat.reduceEqDiff, Nat.reduceAdd, Nat.reduceMul, Nat.reduceLeDiff, Nat.reduceLT, Nat.reduceBNe, reduceCtorEq, e5, e0, e1]
    have hnext : memS (l.take (i + 1)) t = false → ∃ r, W .i64 ((i : Int) + 1) r ∧ ∃ x', l.length - x' < l.length - i ∧ SV.val (.int .i64 r) = SV.val (.int .i64 (x' : Nat)) ∧ x' ≤ l.length ∧ memS (l.take x') t = false := fun h => ⟨_, W.in64 (by omega), i + 1, by omega, rfl, by omega, h⟩
    refine ⟨fun h1 => ⟨by omega, vat ad had ?_⟩, fun h1 => hnext (by rw [hs, decide_eq_false h1]; rfl)⟩
    try simp only [go_sem, ↓reduceIte, Nat.reduceEqDiff, Nat.reduceAdd, Nat.reduceMul, Nat.reduceLeDiff, Nat.reduceLT, Nat.reduceBNe, reduceCtorEq]
    refine vload (.int .i64 (l[i]).t) (hle1 _ _ (hR 1 _ rfl)) ?_
    simp only [go_sem, ↓reduceIte, Nat.reduceEqDiff, Nat.reduceAdd, Nat.reduceMul, Nat.reduceLeDiff, Nat.reduceLT, Nat.reduceBNe, reduceCtorEq, e5, e0, e1]
    refine ⟨fun h2 => ?_, fun h2 => hnext (by rw [hs, decide_eq_true h1, decide_eq_false h2]; rfl)⟩
    symm
    congr 1
    exact memS_iff.2 ⟨l[i], List.getElem_mem hlt', h1, h2⟩
  · obtain rfl : i = l.length := by omega
    rw [List.take_length] at hn
    rw [hn]
theorem rSameS (xs ys : List Sp) (v u : Value) (R : RO) (h : SpV R v xs) (k : SpV R u ys) : CallsR Tryz.prog 31 [v, u] R fun _ r => r = .bool (decide (xs = ys)) := by
  have hxl := h.2
  obtain ⟨a, cap, rfl, hc, hf⟩ := h.form
  obtain ⟨b, cap', rfl, hc', hf'⟩ := k.form
  refine callsT mix Tryz.func31 comp31 (by simp [Tryz.ntmps31]) ?_; simp only [go_sem, ↓reduceIte, Nat.reduceEqDiff, Nat.reduceAdd, Nat.reduceMul, Nat.reduceLeDiff, Nat.reduceLT, Nat.reduceBNe, reduceCtorEq, vc31, rs31]
  refine ⟨fun hne => ?_, fun he => ?_⟩
  · rw [decide_eq_false]; rintro rfl; exact hne (by omega)
  · have hlen : xs.length = ys.length := by omega
    refine vcLoop Nat (fun i => [(5, .val (.int .i64 i)), (0, .val (.slice a xs.length cap)), (1, .val (.slice b ys.length cap'))]) (fun _ => []) (fun i _ => i ≤ xs.length ∧ xs.take i = ys.take i) (fun i => xs.length - i) 0 ?_ ?_ ?_ ?_
    · (try simp only [go_sem, ↓reduceIte, Nat.reduceEqDiff, Nat.reduceAdd, Nat.reduceMul, Nat.reduceLeDiff, Nat.reduceLT, Nat.reduceBNe, reduceCtorEq]) <;> (repeat' (first | rfl | trivial | constructor | (intro h; exact absurd rfl h)))
    · try simp only [go_sem, ↓reduceIte, Nat.reduceEqDiff, Nat.reduceAdd, Nat.reduceMul, Nat.reduceLeDiff, Nat.reduceLT, Nat.reduceBNe, reduceCtorEq]
    · exact ⟨Nat.zero_le _, rfl⟩
    rintro i env R1 hle1 hE ⟨hi, hn⟩
    (simp only [go_sem] at hE; obtain ⟨e5, e0, e1⟩ := hE; simp only [go_sem, ↓reduceIte, Nat.reduceEqDiff, Nat.reduceAdd, Nat.reduceMul, Nat.reduceLeDiff, Nat.reduceLT, Nat.reduceBNe, reduceCtorEq, e5, e0, e1]; dsimp only at *)
    refine ⟨fun hlt => ?_, fun hge => ?_⟩
    · have hlt' : i < xs.length := by omega
      have hlt2 : i < ys.length := by omega
      obtain ⟨ad, had, hR⟩ := hf i hlt'
      obtain ⟨ad', had', hR'⟩ := hf' i hlt2
      refine ⟨by omega, vat ad had ?_⟩
      try simp only [go_sem, ↓reduceIte, Nat.reduceEqDiff, Nat.reduceAdd, Nat.reduceMul, Nat.reduceLeDiff, Nat.reduceLT, Nat.reduceBNe, reduceCtorEq]
      refine vloadn (xs[i]).cells rfl (fun j u hj => hle1 _ _ (hR j u hj)) ?_
      simp only [go_sem, ↓reduceIte, Nat.reduceEqDiff, Nat.reduceAdd, Nat.reduceMul, Nat.reduceLeDiff, Nat.reduceLT, Nat.reduceBNe, reduceCtorEq, e5, e0, e1]
      refine ⟨by omega, vat ad' had' ?_⟩
      try simp only [go_sem, ↓reduceIte, Nat.reduceEqDiff, Nat.reduceAdd, Nat.reduceMul, Nat.reduceLeDiff, Nat.reduceLT, Nat.reduceBNe, reduceCtorEq]
      refine vloadn (ys[i]).cells rfl (fun j u hj => hle1 _ _ (hR' j u hj)) ?_
      simp only [go_sem, ↓reduceIte, Nat.reduceEqDiff, Nat.reduceAdd, Nat.reduceMul, Nat.reduceLeDiff, Nat.reduceLT, Nat.reduceBNe, reduceCtorEq, Sp.cells, e5, e0, e1]
      refine ⟨fun h1 => ?_, fun h1 => ⟨_, W.in64 (by omega), i + 1, by omega, rfl, by omega, ?_⟩⟩
      · congr 1
        symm
        rw [decide_eq_false_iff_not]
        rintro rfl
        simp at h1
      · rw [List.take_succ_eq_append_getElem hlt', List.take_succ_eq_append_getElem hlt2, hn]
        congr 2
        generalize xs[i] = x at h1
        generalize ys[i] = y at h1
        cases x; cases y
        simp only at h1
        obtain ⟨h1, h2⟩ := h1
        subst h1; subst h2; rfl
    · obtain rfl : i = xs.length := by omega
      rw [List.take_length, hlen, List.take_length] at hn
      rw [decide_eq_true hn]
end Go.Proofs.YtclkibjonbhldaaGreatDoor
/- Plain lemmas of our own, no statement of the seat: insertion into rising lists; the reference insert, in. -/
namespace Go.Proofs.YtclkibjonbhldaaGreatDoor
set_option linter.unusedSimpArgs false
set_option linter.unusedVariables false
open Go.Proofs.YtclkibjonbhldaaGreatDoor.Vc
theorem mem_tw {α : Type} {p : α → Bool} : ∀ {l : List α} {a : α}, a ∈ l.takeWhile p → p a = true
  | [], a, h => by simp at h
  | x :: l, a, h => by
    rw [List.takeWhile_cons] at h
    split at h
    · rcases List.mem_cons.1 h with rfl | h
      · assumption
      · exact mem_tw h
    · simp at h
theorem drop_tw {α : Type} (p : α → Bool) : ∀ l : List α, l.drop (l.takeWhile p).length = l.dropWhile p
  | [] => rfl
  | x :: l => by
    rw [List.takeWhile_cons, List.dropWhile_cons]
    split
    · rw [List.length_cons, List.drop_succ_cons]; exact drop_tw p l
    · rfl
def insI (l : List Int) (x : Int) : List Int := let r := l.dropWhile fun y => decide (y < x); (l.takeWhile fun y => decide (y < x)) ++ (if r.head? = some x then r else x :: r)
theorem insI_inc {l : List Int} {x : Int} (h : Inc l) : Inc (insI l x) := by
  have hs := h
  rw [← List.takeWhile_append_dropWhile (p := fun y => decide (y < x)) (l := l)] at hs
  have hs' := List.pairwise_append.1 hs
  have ht : ∀ a ∈ l.takeWhile (fun y => decide (y < x)), a < x := fun a ha => by simpa using mem_tw ha
  unfold insI
  dsimp only
  split
  · exact hs
  · rename_i hh
    have hd : ∀ b ∈ l.dropWhile (fun y => decide (y < x)), x < b := by
      intro b hb
      cases hr : l.dropWhile (fun y => decide (y < x)) with
      | nil => rw [hr] at hb; simp at hb
      | cons y r =>
        have h4 := List.head_dropWhile_not (fun y => decide (y < x)) (l := l) (by rw [hr]; simp)
        simp only [hr, List.head_cons, decide_eq_false_iff_not] at h4
        have hy : x < y := by
          rcases Int.lt_trichotomy x y with h | h | h
          · exact h
          · rw [hr, h] at hh; simp at hh
          · exact absurd h h4
        have h5 := hs'.2.1
        rw [hr] at h5 hb
        rcases List.mem_cons.1 hb with rfl | hb
        · exact hy
        · have := (List.pairwise_cons.1 h5).1 b hb; omega
    refine List.pairwise_append.2 ⟨hs'.1, List.pairwise_cons.2 ⟨hd, hs'.2.1⟩, fun a ha b hb => ?_⟩
    rcases List.mem_cons.1 hb with rfl | hb
    · exact ht a ha
    · exact hs'.2.2 a ha b hb
theorem insI_mem (l : List Int) (x y : Int) : y ∈ insI l x ↔ y = x ∨ y ∈ l := by
  have hl : y ∈ l ↔ y ∈ l.takeWhile (fun y => decide (y < x)) ∨ y ∈ l.dropWhile (fun y => decide (y < x)) := by rw [← List.mem_append, List.takeWhile_append_dropWhile]
  unfold insI
  dsimp only
  rw [hl, List.mem_append]
  split
  · rename_i hh
    have hx : x ∈ l.dropWhile (fun y => decide (y < x)) := List.mem_of_mem_head? hh
    constructor
    · exact .inr
    · rintro (rfl | h)
      · exact .inr hx
      · exact h
  · rw [List.mem_cons]
    constructor
    · rintro (h | h | h)
      · exact .inr (.inl h)
      · exact .inl h
      · exact .inr (.inr h)
    · rintro (h | h | h)
      · exact .inr (.inl h)
      · exact .inl h
      · exact .inr (.inr h)
theorem insDays (l : List Int) : ∀ (out : List Int), Inc out → Inc (l.foldl insI out) ∧ ∀ x, x ∈ l.foldl insI out ↔ x ∈ out ∨ x ∈ l := by
  induction l with
  | nil => intro out h; exact ⟨h, by simp⟩
  | cons y l ih =>
    intro out h
    obtain ⟨h1, h2⟩ := ih (insI out y) (insI_inc h)
    refine ⟨h1, fun x => ?_⟩
    rw [List.foldl_cons, h2, insI_mem, List.mem_cons]
    constructor
    · rintro ((h | h) | h)
      · exact .inr (.inl h)
      · exact .inl h
      · exact .inr (.inr h)
    · rintro (h | h | h)
      · exact .inl (.inr h)
      · exact .inl (.inl h)
      · exact .inr h
def insK (l : List Int) (x : Int) : Nat := (l.takeWhile fun y => decide (y < x)).length
theorem insK_le (l : List Int) (x : Int) : insK l x ≤ l.length := (List.takeWhile_prefix _).length_le
theorem insK_less {l : List Int} {x : Int} {i : Nat} (h : i < insK l x) (hi : i < l.length) : l[i] < x := by
  have h0 : l.take (insK l x) = l.takeWhile fun y => decide (y < x) := (List.prefix_iff_eq_take.1 (List.takeWhile_prefix _)).symm
  have h1 : l[i] ∈ l.takeWhile fun y => decide (y < x) := by
    rw [← h0, List.mem_take_iff_getElem]
    exact ⟨i, by omega, rfl⟩
  simpa using mem_tw h1
theorem insK_not {l : List Int} {x : Int} (h : insK l x < l.length) : ¬ l[insK l x] < x := by
  have h2 : l.drop (insK l x) = l.dropWhile fun y => decide (y < x) := drop_tw _ l
  have h3 : (l.dropWhile fun y => decide (y < x)) ≠ [] := by
    intro e
    have := congrArg List.length (h2.trans e)
    simp at this; omega
  have h4 := List.head_dropWhile_not (fun y => decide (y < x)) h3
  have h5 : (l.dropWhile fun y => decide (y < x)).head h3 = l[insK l x] := by
    simp only [← h2]
    rw [List.head_drop]
  rw [h5] at h4
  simpa using h4
theorem insI_eq (l : List Int) (x : Int) : insI l x = if l[insK l x]? = some x then l else l.take (insK l x) ++ x :: l.drop (insK l x) := by
  have h0 : l.take (insK l x) = l.takeWhile fun y => decide (y < x) := (List.prefix_iff_eq_take.1 (List.takeWhile_prefix _)).symm
  have h2 : l.drop (insK l x) = l.dropWhile fun y => decide (y < x) := drop_tw _ l
  have h3 : l[insK l x]? = (l.dropWhile fun y => decide (y < x)).head? := by rw [← h2, List.head?_drop]
  unfold insI
  rw [h3, h0, h2]
  dsimp only
  split
  · exact List.takeWhile_append_dropWhile
  · rfl
set_option maxHeartbeats 1000000 in
theorem rInsert (l : List Int) (x : Int) (hl : l.length ≤ 100000000) (R : RO) : CallsS Tryz.prog 115 [.sl 0 l.length, .val (.int .i64 x)] [.row 3 1 (l.map (.int .i64))] R fun R' bs r =>
    (insI l x = l ∧ bs = [.row 3 1 (l.map (.int .i64))] ∧ r = .sl 0 l.length) ∨ (∃ a b, bs = [.dead, .dead, a, b, .dead, .row 3 1 ((insI l x).map (.int .i64))] ∧ r = .sl 5 (insI l x).length) := by
  have hale := insK_le l x
  refine callsTS mix Tryz.func115 comp115 (by simp [Tryz.ntmps115]) rfl rfl ?_; simp only [go_sem, ↓reduceIte, Nat.reduceEqDiff, Nat.reduceAdd, Nat.reduceMul, Nat.reduceLeDiff, Nat.reduceLT, Nat.reduceBNe, reduceCtorEq, vc115, rs115]
  refine cutL (fun s' => ∃ env R1, s' = ⟨env, [.row 3 1 (l.map (.int .i64))], R1⟩ ∧ env 5 = .val (.int .i64 (insK l x)) ∧ env 0 = .sl 0 l.length ∧ env 1 = .val (.int .i64 x)) ?_ ?_
  · refine vcLoop Nat (fun k => [(5, .val (.int .i64 k)), (0, .sl 0 l.length), (1, .val (.int .i64 x))]) (fun _ => [.row 3 1 (l.map (.int .i64))]) (fun k _ => k ≤ insK l x) (fun k => l.length - k) 0 ?_ ?_ ?_ ?_
    · (try simp only [go_sem, ↓reduceIte, Nat.reduceEqDiff, Nat.reduceAdd, Nat.reduceMul, Nat.reduceLeDiff, Nat.reduceLT, Nat.reduceBNe, reduceCtorEq]) <;> (repeat' (first | rfl | trivial | constructor | (intro h; exact absurd rfl h)))
    · rfl
    · exact Nat.zero_le _
    rintro k env R1 hle1 hE hk
    (simp only [go_sem] at hE; obtain ⟨e5, e0, e1⟩ := hE; simp only [go_sem, ↓reduceIte, Nat.reduceEqDiff, Nat.reduceAdd, Nat.reduceMul, Nat.reduceLeDiff, Nat.reduceLT, Nat.reduceBNe, reduceCtorEq, e5, e0, e1]; dsimp only at *)
    refine ⟨fun hkl => ?_, fun hkg => ?_⟩
    · have hkn : k < l.length := by omega
      refine ⟨hkl, .int .i64 l[k], by rw [List.getElem?_map, List.getElem?_eq_getElem hkn]; rfl, ?_⟩
      simp only [go_sem, ↓reduceIte, Nat.reduceEqDiff, Nat.reduceAdd, Nat.reduceMul, Nat.reduceLeDiff, Nat.reduceLT, Nat.reduceBNe, reduceCtorEq, e5, e0, e1]
      refine ⟨fun h1 => ?_, fun h1 => ?_⟩
      · refine ⟨_, W.in64 (by omega), k + 1, by omega, by constructor, rfl, ?_⟩
        rcases Nat.lt_or_ge k (insK l x) with h2 | h2
        · exact h2
        · obtain rfl : k = insK l x := by omega
          exact absurd h1 (insK_not hkn)
      · have : k = insK l x := by
          rcases Nat.lt_or_ge k (insK l x) with h2 | h2
          · exact absurd (insK_less h2 hkn) h1
          · omega
        rw [← this]
        exact ⟨_, _, rfl, e5, e0, e1⟩
    · have : k = insK l x := by omega
      rw [← this]
      exact ⟨_, _, rfl, e5, e0, e1⟩
  rintro s' ⟨env, R1, rfl, e5, e0, e1⟩
  have hI := insI_eq l x
  obtain ⟨k, hk⟩ : ∃ k, k = insK l x := ⟨_, rfl⟩
  rw [← hk] at e5 hale hI
  rw [tCode_seq]
  refine cutT (fun s' => ∃ env R2, s' = ⟨env, [.row 3 1 (l.map (.int .i64))], R2⟩ ∧ l[k]? ≠ some x ∧ env 5 = .val (.int .i64 k) ∧ env 0 = .sl 0 l.length ∧ env 1 = .val (.int .i64 x)) ?_ ?_
  · try simp only [go_sem, ↓reduceIte, Nat.reduceEqDiff, Nat.reduceAdd, Nat.reduceMul, Nat.reduceLeDiff, Nat.reduceLT, Nat.reduceBNe, reduceCtorEq, e5, e0, e1]
    refine ⟨fun hkl => ?_, fun hkg => ?_⟩
    · have hkn : k < l.length := by omega
      refine ⟨hkl, .int .i64 l[k], by rw [List.getElem?_map, List.getElem?_eq_getElem hkn]; rfl, ?_⟩
      simp only [go_sem, ↓reduceIte, Nat.reduceEqDiff, Nat.reduceAdd, Nat.reduceMul, Nat.reduceLeDiff, Nat.reduceLT, Nat.reduceBNe, reduceCtorEq, e5, e0, e1]
      refine ⟨fun h1 => ?_, fun h1 => ?_⟩
      · rw [if_pos (by rw [List.getElem?_eq_getElem hkn, h1])] at hI
        exact .inl ⟨hI, rfl⟩
      · exact ⟨_, _, rfl, by rw [List.getElem?_eq_getElem hkn]; simpa using h1, e5, e0, e1⟩
    · exact ⟨_, _, rfl, by rw [List.getElem?_eq_none (by omega)]; simp, e5, e0, e1⟩
  rintro s' ⟨env, R2, rfl, hnk, e5, e0, e1⟩
  rw [if_neg hnk] at hI
  have hone : ∀ (ys : List Int), ∀ u ∈ ys.map (Value.int .i64), u.oneCell' = true := fun ys u hu => by obtain ⟨_, _, rfl⟩ := List.mem_map.1 hu; rfl
  rw [tCode_seq]
  refine cutT (fun s' => ∃ env, s' = ⟨env, [.row 3 1 (l.map (.int .i64)), .dead, .row 3 1 ((l.drop k).map (.int .i64))], R2⟩ ∧ env 6 = .sl 2 (l.length - k) ∧ env 5 = .val (.int .i64 k) ∧ env 0 = .sl 0 l.length ∧ env 1 = .val (.int .i64 x)) ?_ ?_
  · try simp only [go_sem, ↓reduceIte, Nat.reduceEqDiff, Nat.reduceAdd, Nat.reduceMul, Nat.reduceLeDiff, Nat.reduceLT, Nat.reduceBNe, reduceCtorEq, e5, e0, e1]
    refine ⟨k, l.length, rfl, rfl, by omega, ⟨_, _, ⟨rfl, rfl⟩, by simp⟩, ?_⟩
    by_cases hk0 : k = 0
    · rw [if_pos hk0]
      subst hk0
      try simp only [go_sem, ↓reduceIte, Nat.reduceEqDiff, Nat.reduceAdd, Nat.reduceMul, Nat.reduceLeDiff, Nat.reduceLT, Nat.reduceBNe, reduceCtorEq, e5, e0, e1]
      refine ⟨by simp, fun u hu => hone _ u hu, ?_⟩
      refine vappO [] rfl rfl (by omega) ?_
      try simp only [go_sem, ↓reduceIte, Nat.reduceEqDiff, Nat.reduceAdd, Nat.reduceMul, Nat.reduceLeDiff, Nat.reduceLT, Nat.reduceBNe, reduceCtorEq, e5, e0, e1]
      rw [List.take_of_length_le (by simp)]
      exact ⟨_, rfl, rfl, e5, e0, e1⟩
    · rw [if_neg hk0]
      try simp only [go_sem, ↓reduceIte, Nat.reduceEqDiff, Nat.reduceAdd, Nat.reduceMul, Nat.reduceLeDiff, Nat.reduceLT, Nat.reduceBNe, reduceCtorEq, e5, e0, e1]
      refine ⟨by simp; omega, fun u hu => hone _ u hu, ?_⟩
      refine vappO [] rfl rfl (by omega) ?_
      try simp only [go_sem, ↓reduceIte, Nat.reduceEqDiff, Nat.reduceAdd, Nat.reduceMul, Nat.reduceLeDiff, Nat.reduceLT, Nat.reduceBNe, reduceCtorEq, e5, e0, e1]
      rw [← List.map_drop, List.take_of_length_le (by simp)]
      exact ⟨_, rfl, rfl, e5, e0, e1⟩
  rintro s' ⟨env, rfl, e6, e5, e0, e1⟩
  try simp only [go_sem, ↓reduceIte, Nat.reduceEqDiff, Nat.reduceAdd, Nat.reduceMul, Nat.reduceLeDiff, Nat.reduceLT, Nat.reduceBNe, reduceCtorEq, e6, e5, e0, e1]
  refine ⟨0, k, rfl, rfl, by omega, ⟨_, _, ⟨rfl, rfl⟩, by simp; omega⟩, ?_⟩
  try simp only [go_sem, ↓reduceIte, Nat.reduceEqDiff, Nat.reduceAdd, Nat.reduceMul, Nat.reduceLeDiff, Nat.reduceLT, Nat.reduceBNe, reduceCtorEq, e6, e5, e0, e1]
  refine vappP ((l.take k).map (.int .i64)) (l.map (.int .i64)) rfl (by rw [List.map_take]; exact List.take_prefix _ _) (by simp; omega) (by omega) ?_
  try simp only [go_sem, ↓reduceIte, Nat.reduceEqDiff, Nat.reduceAdd, Nat.reduceMul, Nat.reduceLeDiff, Nat.reduceLT, Nat.reduceBNe, reduceCtorEq, e6, e5, e0, e1]
  refine ⟨by simp, fun u hu => hone _ u hu, ?_⟩
  refine vappO _ rfl (by simp; omega) (by omega) ?_
  try simp only [go_sem, ↓reduceIte, Nat.reduceEqDiff, Nat.reduceAdd, Nat.reduceMul, Nat.reduceLeDiff, Nat.reduceLT, Nat.reduceBNe, reduceCtorEq, e6, e5, e0, e1]
  rw [hI]
  refine .inr ⟨_, _, ⟨rfl, rfl, rfl, rfl, rfl, ?_⟩, ?_⟩
  · have ht : ((l.drop k).map (Value.int .i64)).take (l.length - k) = (l.drop k).map (Value.int .i64) := List.take_of_length_le (by simp)
    rw [ht]
    simp only [List.map_append, List.map_cons, List.append_assoc, List.cons_append, List.nil_append]
    rfl
  · congr 1
    simp; omega
def opB (k : Int) (a b : Bool) : Bool := if k = 0 then a || b else if k = 1 then a && b else a && !b
theorem rIn (k : Int) (a b : Bool) (R : RO) : CallsR Tryz.prog 95 [.int .i64 k, .bool a, .bool b] R fun _ v => v = .bool (opB k a b) := by
  refine callsT mix Tryz.func95 comp95 (by simp [Tryz.ntmps95]) ?_; simp only [go_sem, ↓reduceIte, Nat.reduceEqDiff, Nat.reduceAdd, Nat.reduceMul, Nat.reduceLeDiff, Nat.reduceLT, Nat.reduceBNe, reduceCtorEq, vc95, rs95]
  unfold opB
  refine ⟨fun h => ?_, fun h => ⟨fun h2 => ?_, fun h2 => ?_⟩⟩
  all_goals (cases a <;> cases b <;> simp_all)
end Go.Proofs.YtclkibjonbhldaaGreatDoor
