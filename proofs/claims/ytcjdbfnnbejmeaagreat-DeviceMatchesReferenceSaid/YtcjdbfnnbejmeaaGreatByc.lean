/- Lemmas of our own, no statement of the seat; the last one of the claim's texts proves the law. -/
import Derived.Test.YtcjdbfnnbejmeaaGreatByb
open Nat renaming reduceEqDiff → nQ1, reduceAdd → nQ2, reduceMul → nQ3, reduceLeDiff → nQ4, reduceLT → nQ5, reduceBNe → nQ6
open Int renaming reduceLE → iQ1, reduceLT → iQ2, reduceToNat → iQ3, cast_ofNat_Int → iQ4, reduceEq → iQ5, reduceNe → iQ6
namespace Go.Proofs.YtcjdbfnnbejmeaaGreat
set_option linter.unusedSimpArgs false
set_option linter.unusedVariables false
open Go.Proofs.YtcjdbfnnbejmeaaGreat.Vc
/-! ### Package device: order, equality -/
theorem dOrder (a b : Ed) (R : RO) : CallsR Tryz.prog 29 [a.val, b.val] R fun _ v => v = .int .i64 (cmpE a b) := by
 simp only [Ed.val]
 refine callsT mix Tryz.func29 comp29 (by simp [Tryz.ntmps29]) ?_; simp only [go_sem, ↓reduceIte, nQ1, nQ2, nQ3, nQ4, nQ5, nQ6, reduceCtorEq, vc29, rs29]
 refine vcall (eCompare a.seq b.seq R) ?_
 rintro R1 v h1 rfl
 try simp only [go_sem, ↓reduceIte, nQ1, nQ2, nQ3, nQ4, nQ5, nQ6, reduceCtorEq]
 refine vcall (eCompare a.device b.device R1) ?_
 rintro R2 v h2 rfl
 try simp only [go_sem, ↓reduceIte, nQ1, nQ2, nQ3, nQ4, nQ5, nQ6, reduceCtorEq]
 refine vfreeze ?_
 try simp only [go_sem, ↓reduceIte, nQ1, nQ2, nQ3, nQ4, nQ5, nQ6, reduceCtorEq]
 intro bb cap R3 hle hrow hcap hfr
 have hI : Ints R3 (.slice (some ⟨bb, 0, none⟩) 2 cap) [cmpI a.seq b.seq, cmpI a.device b.device] := RowIn.ints (xs := [cmpI a.seq b.seq, cmpI a.device b.device]) hrow (by simpa using hcap)
 refine vcall (eOr _ _ R3 hI (by simp)) ?_
 rintro R4 v h4 rfl
 try simp only [go_sem, ↓reduceIte, nQ1, nQ2, nQ3, nQ4, nQ5, nQ6, reduceCtorEq]
 unfold cmpE
 simp only [orI]
 by_cases h1 : cmpI a.seq b.seq = 0
 ·by_cases h2 : cmpI a.device b.device = 0 <;> simp [h1, h2]
 ·simp [h1]
theorem dSameNode (x y : Nd) (cx cy : List Value) (R : RO) (hx : NodeV R cx x) (hy : NodeV R cy y) : CallsR Tryz.prog 45 [.agg cx.toArray, .agg cy.toArray] R fun _ r => r = .bool (decide (x = y)) := by
 obtain ⟨lv, rfl, hi, hl⟩ := hx
 obtain ⟨lu, rfl, hi', hl'⟩ := hy
 obtain ⟨kind, cal, l, r, n, m, list, name⟩ := x
 obtain ⟨kind', cal', l', r', n', m', list', name'⟩ := y
 simp only [Nd.cells] at *
 refine callsT mix Tryz.func45 comp45 (by simp [Tryz.ntmps45]) ?_; simp only [go_sem, ↓reduceIte, nQ1, nQ2, nQ3, nQ4, nQ5, nQ6, reduceCtorEq, vc45, rs45]
 have hb : (name == name') = decide (name = name') := by
  by_cases e : name = name'
  ·subst e
   simp only [decide_true]
   exact bytes_beq name
  ·rw [decide_eq_false e]
   cases hq : (name == name') with
   | false => rfl
   | true => exact absurd (bytes_eq hq) e
 rw [hb]
 simp only [Nd.mk.injEq]
 repeat' (with_reducible first | refine And.intro ?_ ?_ | intro _)
 ·refine vcall (eEqual list list' lv lu R hi hi' (by omega)) ?_
  rintro R1 v h1 rfl
  try simp only [go_sem, ↓reduceIte, nQ1, nQ2, nQ3, nQ4, nQ5, nQ6, reduceCtorEq]
  simp_all
 all_goals simp_all
theorem hbDN : hasBody Tryz.prog 45 = true := by kernel_rfl
theorem dEqualFunc (xs ys : List Nd) (v u : Value) (R : RO) (h : RuleV R v xs) (k : RuleV R u ys) : CallsR Tryz.prog 44 [v, u, .func (.func 45) #[] #[]] R fun _ r => r = .bool (decide (xs = ys)) := by
 obtain ⟨cs, h1, h2, h3, h4⟩ := h
 obtain ⟨ds, k1, k2, k3, k4⟩ := k
 obtain ⟨a, cap, rfl, hc, hf⟩ := SlK.form h1
 obtain ⟨b, cap', rfl, hc', hf'⟩ := SlK.form k1
 refine callsT mix Tryz.func44 comp44 (by simp [Tryz.ntmps44]) ?_; simp only [go_sem, ↓reduceIte, nQ1, nQ2, nQ3, nQ4, nQ5, nQ6, reduceCtorEq, vc44, rs44]
 refine ⟨fun hne => ?_, fun he => ?_⟩
 ·rw [decide_eq_false]; rintro rfl; exact hne (by omega)
 have he' : xs.length = ys.length := by omega
 refine vcLoop Nat (fun i => [(17, .val (.int .i64 i)), (0, .val (.slice a cs.length cap)), (15, .val (.slice a cs.length cap)), (16, .val (.int .i64 cs.length)), (1, .val (.slice b ds.length cap')), (2, .val (.func (.func 45) #[] #[]))]) (fun _ => []) (fun i _ => i ≤ cs.length ∧ xs.take i = ys.take i) (fun i => cs.length - i) 0 ?_ rfl ?_ ?_
 ·(try simp only [go_sem, ↓reduceIte, nQ1, nQ2, nQ3, nQ4, nQ5, nQ6, reduceCtorEq]) <;> (repeat' (first | rfl | trivial | constructor | (intro h; exact absurd rfl h)))
 ·exact ⟨Nat.zero_le _, rfl⟩
 rintro i env R1 hle hE ⟨hi, hp⟩
 (simp only [go_sem] at hE; obtain ⟨e17, e0, e15, e16, e1, e2⟩ := hE; simp only [go_sem, ↓reduceIte, nQ1, nQ2, nQ3, nQ4, nQ5, nQ6, reduceCtorEq, e17, e0, e15, e16, e1, e2]; dsimp only at *)
 refine ⟨fun hlt => ⟨hlt, ?_⟩, fun hge => ?_⟩
 ·have hlt' : i < cs.length := by omega
  obtain ⟨hl, ad, had, hR⟩ := hf i hlt'
  obtain ⟨hl', ad', had', hR'⟩ := hf' i (by omega)
  have hx := h3 i _ _ (List.getElem?_eq_getElem hlt') (List.getElem?_eq_getElem (by omega))
  have hy := k3 i _ _ (List.getElem?_eq_getElem (by omega : i < ds.length)) (List.getElem?_eq_getElem (by omega : i < ys.length))
  obtain ⟨x, hxe⟩ : ∃ x, x = xs[i]'(by omega) := ⟨_, rfl⟩
  obtain ⟨y, hye⟩ : ∃ y, y = ys[i]'(by omega) := ⟨_, rfl⟩
  rw [← hxe] at hx
  rw [← hye] at hy
  have hx' := hx
  have hy' := hy
  obtain ⟨lv, hcx, hI, hIl⟩ := hx
  obtain ⟨lu, hcy, hI', hIl'⟩ := hy
  have ho : lv.oneCell' = true := by obtain ⟨_, _, rfl, _⟩ := hI.form; rfl
  have ho' : lu.oneCell' = true := by obtain ⟨_, _, rfl, _⟩ := hI'.form; rfl
  rw [hcx] at hR hx'
  rw [hcy] at hR' hy'
  refine vat ad had ?_
  try simp only [go_sem, ↓reduceIte, nQ1, nQ2, nQ3, nQ4, nQ5, nQ6, reduceCtorEq]
  refine vloadn (x.cells lv) rfl (fun j u hj => hle _ _ (hR j u hj)) ?_
  simp only [go_sem, ↓reduceIte, nQ1, nQ2, nQ3, nQ4, nQ5, nQ6, reduceCtorEq, Nd.cells, e17, e0, e15, e16, e1, e2]
  refine ⟨ho, by omega, vat ad' had' ?_⟩
  try simp only [go_sem, ↓reduceIte, nQ1, nQ2, nQ3, nQ4, nQ5, nQ6, reduceCtorEq]
  refine vloadn (y.cells lu) rfl (fun j u hj => hle _ _ (hR' j u hj)) ?_
  simp only [go_sem, ↓reduceIte, nQ1, nQ2, nQ3, nQ4, nQ5, nQ6, reduceCtorEq, Nd.cells, e17, e0, e15, e16, e1, e2]
  refine ⟨ho', ?_⟩
  refine ⟨hbDN, vcall (dSameNode x y _ _ R1 (hx'.mono hle) (hy'.mono hle)) ?_⟩
  rintro R2 w h6 rfl
  simp only [go_sem, ↓reduceIte, nQ1, nQ2, nQ3, nQ4, nQ5, nQ6, reduceCtorEq, e17, e0, e15, e16, e1, e2]
  refine ⟨fun hne => ?_, fun heq => ?_⟩
  ·rw [decide_eq_false]; rintro rfl; exact hne (by rw [hxe, hye])
  ·refine ⟨_, W.in64 (by omega), i + 1, by omega, by constructor, by omega, ?_⟩
   rw [List.take_succ_eq_append_getElem (by omega : i < xs.length), List.take_succ_eq_append_getElem (by omega : i < ys.length), hp, ← hxe, ← hye, heq]
 ·obtain rfl : i = cs.length := by omega
  rw [h2, List.take_length, he', List.take_length] at hp
  simp [hp]
theorem dSame (x y : De) (cx cy : List Value) (R : RO) (hx : EdV R cx x) (hy : EdV R cy y) (hk : keyEq x y = true) : CallsR Tryz.prog 31 [.agg cx.toArray, .agg cy.toArray] R fun _ r => r = .bool (decide (x = y)) := by
 obtain ⟨a, n, c, e, h⟩ := hx
 obtain ⟨a', n', c', e', h'⟩ := hy
 rw [e, e']
 clear e e'
 obtain ⟨kind, day, device, seq, mv, minute, length, rule, zone⟩ := x
 obtain ⟨kind', day', device', seq', mv', minute', length', rule', zone'⟩ := y
 obtain ⟨md, mr, mt, mm, ml⟩ := mv
 obtain ⟨md', mr', mt', mm', ml'⟩ := mv'
 rw [keyEq_iff] at hk
 obtain ⟨hk1, hk2⟩ := hk
 simp only [De.ed, Ed.val] at *
 subst hk1 hk2
 refine callsT mix Tryz.func31 comp31 (by simp [Tryz.ntmps31]) ?_; simp only [go_sem, ↓reduceIte, nQ1, nQ2, nQ3, nQ4, nQ5, nQ6, reduceCtorEq, vc31, rs31]
 have hb : (zone == zone') = decide (zone = zone') := by
  by_cases e : zone = zone'
  ·subst e
   simp only [decide_true]
   exact bytes_beq zone
  ·rw [decide_eq_false e]
   cases hq : (zone == zone') with
   | false => rfl
   | true => exact absurd (bytes_eq hq) e
 rw [hb]
 simp only [De.mk.injEq, Mv.mk.injEq]
 repeat' (with_reducible first | refine And.intro ?_ ?_ | intro _)
 ·refine vcall (dEqualFunc rule rule' _ _ R h h') ?_
  rintro R1 v h1 rfl
  try simp only [go_sem, ↓reduceIte, nQ1, nQ2, nQ3, nQ4, nQ5, nQ6, reduceCtorEq]
  simp_all
 all_goals (clear h h')
 all_goals simp_all
end Go.Proofs.YtcjdbfnnbejmeaaGreat
namespace Go.Proofs.YtcjdbfnnbejmeaaGreat
set_option linter.unusedSimpArgs false
set_option linter.unusedVariables false
open Go.Proofs.YtcjdbfnnbejmeaaGreat.Vc
/-! ### Devices: plain -/
structure Dv where
 id : Int
 epoch : Int
 next : Int
 edits : List De
 deriving DecidableEq
def okEd (next : Int) (e : De) : Bool := validD e && decide (e.seq / 64 < next)
def hdrOK (id epoch next : Int) (n : Nat) : Bool := decide (0 ≤ id ∧ id ≤ 15 ∧ 0 ≤ epoch ∧ epoch ≤ 63 ∧ 1 ≤ next ∧ next ≤ 17179869184 ∧ n ≤ 4096)
instance sortedDec (l : List De) : Decidable (SortedD l) := inferInstanceAs (Decidable (List.Pairwise _ l))
def validV (d : Dv) : Bool := hdrOK d.id d.epoch d.next d.edits.length && d.edits.all (okEd d.next) && decide (SortedD d.edits)
def mgo : Nat → List De → List De → List De × List De × Bool
 | 0, _, _ => ([], [], true)
 | _ + 1, [], [] => ([], [], true)
 | n + 1, x :: a, [] => (x :: (mgo n a []).1, (mgo n a []).2.1, (mgo n a []).2.2)
 | n + 1, [], y :: b => (y :: (mgo n [] b).1, y :: (mgo n [] b).2.1, (mgo n [] b).2.2)
 | n + 1, x :: a, y :: b =>
  if lessD x y = true then (x :: (mgo n a (y :: b)).1, (mgo n a (y :: b)).2.1, (mgo n a (y :: b)).2.2)
  else if lessD y x = true then (y :: (mgo n (x :: a) b).1, y :: (mgo n (x :: a) b).2.1, (mgo n (x :: a) b).2.2)
  else (x :: (mgo n a b).1, (mgo n a b).2.1, decide (x = y) && (mgo n a b).2.2)
def freshD (a b : List De) : List De := b.filter fun y => !(a.any (keyEq y))
def agreeD (a b : List De) : Bool := a.all fun x => b.all fun y => !keyEq x y || decide (x = y)
def unionD (a b : List De) : List De := (mgo (a.length + b.length) a b).1
def nextD (n : Int) (l : List De) : Int := l.foldl (fun n e => max n (e.seq / 64 + 1)) n
theorem SortedD.tail {x : De} {l : List De} (h : SortedD (x :: l)) : SortedD l := (List.pairwise_cons.1 h).2
theorem SortedD.head {x : De} {l : List De} (h : SortedD (x :: l)) : ∀ y ∈ l, lessD x y = true := (List.pairwise_cons.1 h).1
theorem keyEq_comm' {x y : De} (h : keyEq x y = false) : keyEq y x = false := by rw [keyEq_symm]; exact h
structure MgoS (a b : List De) (r : List De × List De × Bool) : Prop where
 sorted : SortedD r.1
 mem : ∀ x, x ∈ r.1 ↔ x ∈ a ∨ (x ∈ b ∧ ∀ y ∈ a, keyEq x y = false)
 fresh : r.2.1 = freshD a b
 agree : r.2.2 = agreeD a b
theorem freshD_nil (b : List De) : freshD [] b = b := by simp [freshD]
theorem freshD_cons_lt {x y : De} {a b : List De} (h : ∀ z ∈ b, lessD x z = true) : freshD (x :: a) b = freshD a b := by
 unfold freshD
 refine List.filter_congr fun z hz => ?_
 have h1 := lessD_key (h z hz)
 have h2 : keyEq z x = false := keyEq_comm' h1
 simp [h2]
theorem agreeD_cons (x : De) (a b : List De) : agreeD (x :: a) b = ((b.all fun y => !keyEq x y || decide (x = y)) && agreeD a b) := rfl
theorem all_lt {x : De} {b : List De} (h : ∀ z ∈ b, lessD x z = true) : (b.all fun y => !keyEq x y || decide (x = y)) = true := by
 rw [List.all_eq_true]
 intro z hz
 have := lessD_key (h z hz)
 simp [this]
theorem mgo_spec : ∀ (n : Nat) (a b : List De), a.length + b.length ≤ n → SortedD a → SortedD b → MgoS a b (mgo n a b)
 | 0, a, b, hn, _, _ => by
  have ha : a = [] := List.eq_nil_of_length_eq_zero (by omega)
  have hb : b = [] := List.eq_nil_of_length_eq_zero (by omega)
  subst ha hb
  exact ⟨List.Pairwise.nil, by simp [mgo], rfl, rfl⟩
 | n + 1, [], [], _, _, _ => ⟨List.Pairwise.nil, by simp [mgo], rfl, rfl⟩
 | n + 1, x :: a, [], hn, ha, hb => by
  have ih := mgo_spec n a [] (by simp at hn ⊢; omega) ha.tail hb
  refine ⟨List.pairwise_cons.2 ⟨fun z hz => ?_, ih.sorted⟩, fun z => ?_, by show (mgo n a []).2.1 = _; rw [ih.fresh]; rfl, by show (mgo n a []).2.2 = _; rw [ih.agree, agreeD_cons]; rfl⟩
  ·rcases (ih.mem z).1 hz with h | ⟨h, _⟩
   ·exact ha.head z h
   ·simp at h
  ·show z ∈ x :: (mgo n a []).1 ↔ _
   rw [List.mem_cons, ih.mem, List.mem_cons]
   simp
 | n + 1, [], y :: b, hn, ha, hb => by
  have ih := mgo_spec n [] b (by simp at hn ⊢; omega) ha hb.tail
  refine ⟨List.pairwise_cons.2 ⟨fun z hz => ?_, ih.sorted⟩, fun z => ?_, by show y :: (mgo n [] b).2.1 = _; rw [ih.fresh, freshD_nil, freshD_nil], by show (mgo n [] b).2.2 = _; rw [ih.agree]; rfl⟩
  ·rcases (ih.mem z).1 hz with h | ⟨h, _⟩
   ·simp at h
   ·exact hb.head z h
  ·show z ∈ y :: (mgo n [] b).1 ↔ _
   rw [List.mem_cons, ih.mem, List.mem_cons]
   simp
 | n + 1, x :: a, y :: b, hn, ha, hb => by
  unfold mgo
  by_cases hxy : lessD x y = true
  ·rw [if_pos hxy]
   have ih := mgo_spec n a (y :: b) (by simp at hn ⊢; omega) ha.tail hb
   have hxb : ∀ z ∈ y :: b, lessD x z = true := fun z hz => by
    rcases List.mem_cons.1 hz with rfl | hz
    ·exact hxy
    ·exact lessD_trans hxy (hb.head z hz)
   refine ⟨List.pairwise_cons.2 ⟨fun z hz => ?_, ih.sorted⟩, fun z => ?_, by show (mgo n a (y :: b)).2.1 = _; rw [ih.fresh, freshD_cons_lt (y := y) hxb], by show (mgo n a (y :: b)).2.2 = _; rw [ih.agree, agreeD_cons, all_lt hxb, Bool.true_and]⟩
   ·rcases (ih.mem z).1 hz with h | ⟨h, _⟩
    ·exact ha.head z h
    ·exact hxb z h
   ·show z ∈ x :: (mgo n a (y :: b)).1 ↔ _
    rw [List.mem_cons, ih.mem, List.mem_cons (a := z) (b := x)]
    constructor
    ·rintro (h | h | ⟨h1, h2⟩)
     ·exact .inl (.inl h)
     ·exact .inl (.inr h)
     ·refine .inr ⟨h1, fun w hw => ?_⟩
      rcases List.mem_cons.1 hw with rfl | hw
      ·exact keyEq_comm' (lessD_key (hxb z h1))
      ·exact h2 w hw
    ·rintro ((h | h) | ⟨h1, h2⟩)
     ·exact .inl h
     ·exact .inr (.inl h)
     ·exact .inr (.inr ⟨h1, fun w hw => h2 w (List.mem_cons_of_mem _ hw)⟩)
  ·rw [if_neg hxy]
   by_cases hyx : lessD y x = true
   ·rw [if_pos hyx]
    have ih := mgo_spec n (x :: a) b (by simp at hn ⊢; omega) ha hb.tail
    have hya : ∀ z ∈ x :: a, lessD y z = true := fun z hz => by
     rcases List.mem_cons.1 hz with rfl | hz
     ·exact hyx
     ·exact lessD_trans hyx (ha.head z hz)
    have hyk : ((x :: a).any (keyEq y)) = false := List.any_eq_false.2 fun z hz => by rw [lessD_key (hya z hz)]; simp
    refine ⟨List.pairwise_cons.2 ⟨fun z hz => ?_, ih.sorted⟩, fun z => ?_, ?_, ?_⟩
    ·rcases (ih.mem z).1 hz with h | ⟨h, _⟩
     ·exact hya z h
     ·exact hb.head z h
    ·show z ∈ y :: (mgo n (x :: a) b).1 ↔ _
     rw [List.mem_cons, ih.mem, List.mem_cons (a := z) (b := y)]
     constructor
     ·rintro (rfl | h | ⟨h1, h2⟩)
      ·exact .inr ⟨.inl rfl, fun w hw => lessD_key (hya w hw)⟩
      ·exact .inl h
      ·exact .inr ⟨.inr h1, h2⟩
     ·rintro (h | ⟨h1 | h1, h2⟩)
      ·exact .inr (.inl h)
      ·exact .inl h1
      ·exact .inr (.inr ⟨h1, h2⟩)
    ·show y :: (mgo n (x :: a) b).2.1 = _
     rw [ih.fresh]
     unfold freshD
     rw [List.filter_cons, hyk]
     rfl
    ·show (mgo n (x :: a) b).2.2 = _
     rw [ih.agree]
     unfold agreeD
     rw [Bool.eq_iff_iff, List.all_eq_true, List.all_eq_true]
     refine ⟨fun h z hz => ?_, fun h z hz => ?_⟩
     ·rw [List.all_cons, h z hz, keyEq_comm' (lessD_key (hya z hz))]; rfl
     ·have := h z hz
      rw [List.all_cons, Bool.and_eq_true] at this
      exact this.2
   ·rw [if_neg hyx]
    have hk : keyEq x y = true := lessD_total (by simpa using hxy) (by simpa using hyx)
    have ih := mgo_spec n a b (by simp at hn ⊢; omega) ha.tail hb.tail
    have hxb : ∀ z ∈ b, lessD x z = true := fun z hz => by
     have := hb.head z hz
     rw [lessD_iff] at *; rw [keyEq_iff] at hk; omega
    have hya : ∀ z ∈ a, lessD y z = true := fun z hz => by
     have := ha.head z hz
     rw [lessD_iff] at *; rw [keyEq_iff] at hk; omega
    refine ⟨List.pairwise_cons.2 ⟨fun z hz => ?_, ih.sorted⟩, fun z => ?_, ?_, ?_⟩
    ·rcases (ih.mem z).1 hz with h | ⟨h, _⟩
     ·exact ha.head z h
     ·exact hxb z h
    ·show z ∈ x :: (mgo n a b).1 ↔ _
     rw [List.mem_cons, ih.mem, List.mem_cons (a := z) (b := x), List.mem_cons (a := z) (b := y)]
     constructor
     ·rintro (h | h | ⟨h1, h2⟩)
      ·exact .inl (.inl h)
      ·exact .inl (.inr h)
      ·refine .inr ⟨.inr h1, fun w hw => ?_⟩
       rcases List.mem_cons.1 hw with rfl | hw
       ·exact keyEq_comm' (lessD_key (hxb z h1))
       ·exact h2 w hw
     ·rintro ((h | h) | ⟨rfl | h1, h2⟩)
      ·exact .inl h
      ·exact .inr (.inl h)
      ·have := h2 x (by simp)
       rw [keyEq_symm, hk] at this; cases this
      ·exact .inr (.inr ⟨h1, fun w hw => h2 w (List.mem_cons_of_mem _ hw)⟩)
    ·show (mgo n a b).2.1 = _
     rw [ih.fresh, ← freshD_cons_lt (x := x) (y := y) (a := a) hxb]
     unfold freshD
     rw [List.filter_cons, if_neg]
     simp [keyEq_symm y x, hk]
    ·show (decide (x = y) && (mgo n a b).2.2) = _
     rw [ih.agree, agreeD_cons, List.all_cons, all_lt hxb, hk]
     have h1 : agreeD a (y :: b) = agreeD a b := by
      unfold agreeD
      rw [Bool.eq_iff_iff, List.all_eq_true, List.all_eq_true]
      refine ⟨fun h z hz => ?_, fun h z hz => ?_⟩
      ·have := h z hz
       rw [List.all_cons, Bool.and_eq_true] at this
       exact this.2
      ·rw [List.all_cons, h z hz, keyEq_comm' (lessD_key (hya z hz))]; rfl
     rw [h1]
     simp
theorem unionD_spec {a b : List De} (ha : SortedD a) (hb : SortedD b) : SortedD (unionD a b) ∧ ∀ x, x ∈ unionD a b ↔ x ∈ a ∨ (x ∈ b ∧ ∀ y ∈ a, keyEq x y = false) :=
 have h := mgo_spec _ a b (Nat.le_refl _) ha hb
 ⟨h.sorted, h.mem⟩
def stampD (d : Dv) (e : De) : De := { e with device := d.id, seq := 64 * d.next + d.epoch }
def bareD (e : De) : De := { e with device := 0, seq := 1 }
def dvNew (id : Int) : Except Int Dv := if 0 ≤ id ∧ id ≤ 15 then .ok ⟨id, 0, 1, []⟩ else .error 1
def dvAdd (d : Dv) (e : De) : Except Int Dv :=
 if validV d = true ∧ validD (bareD e) = true then (if 4096 ≤ d.edits.length ∨ 17179869184 ≤ d.next then .error 2 else .ok ⟨d.id, d.epoch, d.next + 1, d.edits ++ [stampD d e]⟩) else .error 1
def dvSync (d o : Dv) : Except Int Dv :=
 if validV d = true ∧ validV o = true then
  (if agreeD d.edits o.edits = true then (if 4096 < (unionD d.edits o.edits).length then .error 2 else .ok ⟨d.id, d.epoch, nextD d.next (freshD d.edits o.edits), unionD d.edits o.edits⟩) else .error 1)
 else .error 1
def dvRestore (d : Dv) (ep : Int) : Except Int Dv :=
 if validV d = true ∧ 0 ≤ ep ∧ ep ≤ 63 then (if ep ≤ d.epoch then .error 9 else .ok ⟨d.id, ep, d.next, d.edits⟩) else .error 1
def dvLacks (d o : Dv) : List De := if validV d = true ∧ validV o = true then freshD d.edits o.edits else []
end Go.Proofs.YtcjdbfnnbejmeaaGreat
namespace Go.Proofs.YtcjdbfnnbejmeaaGreat
set_option linter.unusedSimpArgs false
set_option linter.unusedVariables false
open Go.Proofs.YtcjdbfnnbejmeaaGreat.Vc
/-! ### Package device: copies -/
theorem dCloneEdits (ds : List De) (v : Value) (R : RO) (h : EdsV R v ds) : CallsS Tryz.prog 23 [.val v] [] R fun R' bs r =>
  ∃ ps : List Pl, ps.map (·.1) = ds ∧ (∀ p ∈ ps, PlOK R' p) ∧ ((ds = [] ∧ bs = [] ∧ r = .val (.slice none 0 0)) ∨ (bs = [.dead, .row 31 13 (rowP ps)] ∧ r = .sl 1 ds.length)) := by
 have hdl : ds.length ≤ 1000000000 := by obtain ⟨_, _, _, _, h⟩ := h; exact h
 obtain ⟨a0, cap0, e0, _, hf⟩ := h.form
 obtain ⟨a, cap, ps, e1, hps, hpo, hsrc⟩ := h.src
 rw [e0] at e1
 simp only [Value.slice.injEq] at e1
 obtain ⟨rfl, _, rfl⟩ := e1
 subst e0
 have hpl : ps.length = ds.length := by rw [← hps]; simp
 refine callsTS mix Tryz.func23 comp23 (by simp [Tryz.ntmps23]) rfl rfl ?_; simp only [go_sem, ↓reduceIte, nQ1, nQ2, nQ3, nQ4, nQ5, nQ6, reduceCtorEq, vc23, rs23]
 refine ⟨fun hn => ?_, fun hs => ?_⟩
 ·have hds : ds = [] := by
   cases hd : ds with
   | nil => rfl
   | cons x r =>
    exfalso
    obtain ⟨ad, _, _, _, e, _⟩ := hf 0 (by rw [hd]; simp)
    rw [e] at hn; cases hn
  exact ⟨ps, hps, hpo, hds⟩
 ·refine hsrc ?_
  try simp only [go_sem, ↓reduceIte, nQ1, nQ2, nQ3, nQ4, nQ5, nQ6, reduceCtorEq]
  refine vappO [] rfl rfl (by omega) ?_
  try simp only [go_sem, ↓reduceIte, nQ1, nQ2, nQ3, nQ4, nQ5, nQ6, reduceCtorEq]
  exact ⟨ps, hps, hpo, .inr ⟨rfl, rfl⟩⟩
theorem dClone (d : De) (ra : Option Addr) (rn rc : Nat) (R : RO) (h : RuleV R (.slice ra rn rc) d.rule) : CallsR Tryz.prog 39 [.agg ((d.ed ra rn rc).cells).toArray] R fun R' v => ∃ ra' rn' rc', v = .agg ((d.ed ra' rn' rc').cells).toArray ∧ RuleV R' (.slice ra' rn' rc') d.rule := by
 have hxl : d.rule.length ≤ 1599289640355 := by obtain ⟨_, _, _, _, h⟩ := h; exact h
 have hcl := eCloneRule d.rule _ R h hxl
 have hrn := h.len
 subst hrn
 simp only [Ed.cells, De.ed]
 refine callsT mix Tryz.func39 comp39 (by simp [Tryz.ntmps39]) ?_; simp only [go_sem, ↓reduceIte, nQ1, nQ2, nQ3, nQ4, nQ5, nQ6, reduceCtorEq, vc39, rs39]
 refine vhand0 [] [.val (.slice ra d.rule.length rc)] [] hcl rfl rfl rfl trivial (by simp) rfl rfl ?_
 rintro R1 bs r hle1 ⟨cs, h1, h2, h3, h4⟩ _
 rcases h4 with ⟨hx, rfl, rfl⟩ | ⟨rfl, rfl⟩
 ·try simp only [go_sem, ↓reduceIte, nQ1, nQ2, nQ3, nQ4, nQ5, nQ6, reduceCtorEq, iQ1, iQ2, iQ3, iQ4, iQ5, iQ6, setG_no]
  refine vcLoop Unit (fun _ => [(11, .val (.int .i64 0)), (10, .val (.int .i64 0)), (1, .loc 0 0), (2, .loc 1 0)]) (fun _ => [.box [.val (.int .i64 d.kind), .val (.int .i64 d.day), .val (.int .i64 d.device), .val (.int .i64 d.seq), .val (.int .i64 d.mv.day), .val (.bool d.mv.drop), .val (.int .i64 d.mv.toDay), .val (.int .i64 d.mv.minute), .val (.int .i64 d.mv.length), .val (.int .i64 d.minute), .val (.int .i64 d.length), .val (.slice none 0 0), .val (.string d.zone)],
   .box [.val (.int .i64 0), .val (.int .i64 0), .val (.int .i64 0), .val (.int .i64 0), .val (.int .i64 0), .val (.bool false), .val (.int .i64 0), .val (.int .i64 0), .val (.int .i64 0), .val (.int .i64 0), .val (.int .i64 0), .val (.slice none 0 0), .val (.string ⟨#[]⟩)]]) (fun _ _ => True) (fun _ => 0) () ?_ ?_ trivial ?_
  ·(try simp only [go_sem, ↓reduceIte, nQ1, nQ2, nQ3, nQ4, nQ5, nQ6, reduceCtorEq]) <;> (repeat' (first | rfl | trivial | constructor | (intro h; exact absurd rfl h)))
  ·try simp only [go_sem, ↓reduceIte, nQ1, nQ2, nQ3, nQ4, nQ5, nQ6, reduceCtorEq]
  rintro _ env R2 hle hE _
  (simp only [go_sem] at hE; obtain ⟨e11, e10, e1, e2⟩ := hE; simp only [go_sem, ↓reduceIte, nQ1, nQ2, nQ3, nQ4, nQ5, nQ6, reduceCtorEq, e11, e10, e1, e2]; dsimp only at *)
  refine ⟨fun h => absurd h (by omega), fun _ => ?_⟩
  exact ⟨none, 0, 0, rfl, by rw [hx]; exact ⟨[], ⟨none, 0, rfl, Nat.le_refl _, by simp⟩, rfl, by simp, by simp⟩⟩
 ·try simp only [go_sem, ↓reduceIte, nQ1, nQ2, nQ3, nQ4, nQ5, nQ6, reduceCtorEq, iQ1, iQ2, iQ3, iQ4, iQ5, iQ6, setG_no]
  have hN : Nodes R1 cs d.rule := ⟨h1, h3⟩
  clear h1 h2 h3 hcl
  refine vcLoop (Nat × List (List Value)) (fun p => [(11, .val (.int .i64 p.1)), (10, .val (.int .i64 d.rule.length)), (1, .loc 0 0), (2, .loc 1 0)]) (fun p => [.box [.val (.int .i64 d.kind), .val (.int .i64 d.day), .val (.int .i64 d.device), .val (.int .i64 d.seq), .val (.int .i64 d.mv.day), .val (.bool d.mv.drop), .val (.int .i64 d.mv.toDay), .val (.int .i64 d.mv.minute), .val (.int .i64 d.mv.length), .val (.int .i64 d.minute), .val (.int .i64 d.length), .sl 3 d.rule.length, .val (.string d.zone)],
   .box [.val (.int .i64 0), .val (.int .i64 0), .val (.int .i64 0), .val (.int .i64 0), .val (.int .i64 0), .val (.bool false), .val (.int .i64 0), .val (.int .i64 0), .val (.int .i64 0), .val (.int .i64 0), .val (.int .i64 0), .val (.slice none 0 0), .val (.string ⟨#[]⟩)], .dead, .row 78 8 p.2.flatten]) (fun p R => p.1 ≤ d.rule.length ∧ Nodes R p.2 d.rule) (fun p => d.rule.length - p.1) (0, cs) ?_ ?_ ?_ ?_
  ·(try simp only [go_sem, ↓reduceIte, nQ1, nQ2, nQ3, nQ4, nQ5, nQ6, reduceCtorEq]) <;> (repeat' (first | rfl | trivial | constructor | (intro h; exact absurd rfl h)))
  ·try simp only [go_sem, ↓reduceIte, nQ1, nQ2, nQ3, nQ4, nQ5, nQ6, reduceCtorEq]
  ·exact ⟨Nat.zero_le _, hN⟩
  rintro ⟨i, cs⟩ env R2 hle hE ⟨hi, hN⟩
  (simp only [go_sem] at hE; obtain ⟨e11, e10, e1, e2⟩ := hE; simp only [go_sem, ↓reduceIte, nQ1, nQ2, nQ3, nQ4, nQ5, nQ6, reduceCtorEq, e11, e10, e1, e2]; dsimp only at *)
  have hlen := hN.1
  have h8 := hN.len
  have hfl := length_flattenK h8
  refine ⟨fun hlt => ?_, fun hge => ?_⟩
  ·have hlt' : i < d.rule.length := by omega
   have hx := hN.2 i _ _ (List.getElem?_eq_getElem (by omega : i < cs.length)) (List.getElem?_eq_getElem hlt')
   obtain ⟨lv, hcx, hI, hIl⟩ := hx
   have hget : cs.flatten[i * 8 + 6]? = some lv := by
    rw [getElem?_flatten h8 i 6 _ (List.getElem?_eq_getElem (by omega : i < cs.length)) (by omega), hcx]
    rfl
   refine ⟨hlt, lv, hget, vcall (eCloneInts _ lv R2 hI hIl) ?_⟩
   intro R3 u hle3 hu
   obtain ⟨ua, ucap, rfl, hucap, huf⟩ := hu.form
   try simp only [go_sem, ↓reduceIte, nQ1, nQ2, nQ3, nQ4, nQ5, nQ6, reduceCtorEq, iQ1, iQ2, iQ3, iQ4, iQ5, iQ6, e11, e10, e1, e2]
   refine ⟨hlt, by omega, _, W.in64 (by omega), (i + 1, cs.set i (d.rule[i].cells (.slice ua (d.rule[i]).list.length ucap))), by dsimp only; omega, ?_, by dsimp only; omega, by simp [hlen], ?_⟩
   ·refine ⟨rfl, ?_⟩
    rw [flat_set cs h8 i 6 _ _ (List.getElem?_eq_getElem (by omega : i < cs.length)) (by omega), hcx]
    rfl
   ·intro j c x hj hx
    rw [List.getElem?_set] at hj
    split at hj
    ·rename_i hij
     subst hij
     rw [if_pos (by omega)] at hj
     simp only [Option.some.injEq] at hj
     rw [List.getElem?_eq_getElem hlt'] at hx
     simp only [Option.some.injEq] at hx
     subst hj hx
     exact ⟨_, rfl, hu, hIl⟩
    ·exact (hN.2 j c x hj hx).mono hle3
  ·intro b cap R3 hle3 hrow hcap hfr
   try simp only [go_sem, ↓reduceIte, nQ1, nQ2, nQ3, nQ4, nQ5, nQ6, reduceCtorEq, e1, e2]
   exact ⟨_, _, _, rfl, cs, by rw [← hlen]; exact RowIn.slK hrow h8 (by omega) hcap, hlen, fun j c x hj hx => (hN.2 j c x hj hx).mono hle3, hxl⟩
end Go.Proofs.YtcjdbfnnbejmeaaGreat
namespace Go.Proofs.YtcjdbfnnbejmeaaGreat
set_option linter.unusedSimpArgs false
set_option linter.unusedVariables false
open Go.Proofs.YtcjdbfnnbejmeaaGreat.Vc
/-! ### Parts of slices -/
theorem SlK.sub {R : RO} {a : Option Addr} {cap k : Nat} {xs : List (List Value)} (h : SlK R (.slice a xs.length cap) k xs) {l u : Nat} (hl : l ≤ u) (hu : u ≤ xs.length) : SlK R (.slice (if cap = l then a else a.map (·.add (l * k))) (u - l) (cap - l)) k ((xs.take u).drop l) := by
 obtain ⟨a', cap', e, hc, hf⟩ := h
 simp only [Value.slice.injEq] at e
 obtain ⟨rfl, _, rfl⟩ := e
 have hlen : ((xs.take u).drop l).length = u - l := by simp; omega
 refine ⟨_, _, by rw [hlen], by omega, fun i us hi => ?_⟩
 have hil : i < u - l := by rw [← hlen]; exact (List.getElem?_eq_some_iff.1 hi).1
 rw [List.getElem?_drop, List.getElem?_take_of_lt (by omega)] at hi
 obtain ⟨h1, ad, rfl, hR⟩ := hf (l + i) us hi
 refine ⟨h1, ad.add (l * k), by rw [if_neg (by omega)]; rfl, fun j v hj => ?_⟩
 have := hR j v hj
 rw [add_add] at this ⊢
 rw [add_add]
 rw [show l * k + (i * k + j) = (l + i) * k + j by rw [Nat.add_mul]; omega]
 exact this
theorem EdsV.sub {R : RO} {a : Option Addr} {cap : Nat} {ds : List De} (h : EdsV R (.slice a ds.length cap) ds) {l u : Nat} (hl : l ≤ u) (hu : u ≤ ds.length) : EdsV R (.slice (if cap = l then a else a.map (·.add (l * 13))) (u - l) (cap - l)) ((ds.take u).drop l) := by
 obtain ⟨cs, h1, h2, h3, h4⟩ := h
 rw [← h2] at h1
 refine ⟨_, SlK.sub h1 hl (by omega), by simp; omega, fun i c d hc hd => ?_, by simp; omega⟩
 have hil : i < u - l := by
  have := (List.getElem?_eq_some_iff.1 hd).1
  simp at this; omega
 rw [List.getElem?_drop, List.getElem?_take_of_lt (by omega)] at hc hd
 exact h3 _ c d hc hd
end Go.Proofs.YtcjdbfnnbejmeaaGreat
namespace Go.Proofs.YtcjdbfnnbejmeaaGreat
set_option linter.unusedSimpArgs false
set_option linter.unusedVariables false
open Go.Proofs.YtcjdbfnnbejmeaaGreat.Vc
/-! ### Package device: New, with, stamp, valid -/
/-- A device, as it lies. -/
def dvCells (d : Dv) (v : Value) : List Value := [.int .i64 d.id, .int .i64 d.epoch, .int .i64 d.next, v]
def DvR (R : RO) (r : Value) : Except Int Dv → Prop
 | .error k => r = .tuple #[.agg #[.int .i64 0, .int .i64 0, .int .i64 0, .slice none 0 0], .int .i64 k]
 | .ok d => ∃ v, r = .tuple #[.agg (dvCells d v).toArray, .int .i64 0] ∧ EdsV R v d.edits
theorem DvR.mono {R R' : RO} {r : Value} {x : Except Int Dv} (h : DvR R r x) (hle : RO.le R R') : DvR R' r x := by
 cases x with
 | error k => exact h
 | ok d => obtain ⟨v, e, h⟩ := h; exact ⟨v, e, h.mono hle⟩
theorem dNew (id : Int) (R : RO) : CallsR Tryz.prog 6 [.int .i64 id] R fun R' r => DvR R' r (dvNew id) := by
 refine callsT mix Tryz.func6 comp6 (by simp [Tryz.ntmps6]) ?_; simp only [go_sem, ↓reduceIte, nQ1, nQ2, nQ3, nQ4, nQ5, nQ6, reduceCtorEq, vc6, rs6]
 unfold dvNew
 refine ⟨fun h => ⟨fun h2 => ?_, fun h2 => ?_⟩, fun h => ?_⟩
 ·rw [if_neg (by omega)]; exact rfl
 ·rw [if_pos (by omega)]; exact ⟨_, rfl, EdsV.nil _⟩
 ·rw [if_neg (by omega)]; exact rfl
theorem dStamp (d : Dv) (v : Value) (e : Ed) (hv : v.oneCell' = true) (hb : 0 ≤ d.epoch ∧ d.epoch ≤ 63 ∧ 1 ≤ d.next ∧ d.next ≤ 17179869184) (R : RO) :
  CallsR Tryz.prog 24 [.agg (dvCells d v).toArray, e.val] R fun _ r => r = (Ed.val { e with device := d.id, seq := 64 * d.next + d.epoch }) := by
 simp only [dvCells, Ed.val]
 refine callsT mix Tryz.func24 comp24 (by simp [Tryz.ntmps24]) ?_; simp only [go_sem, ↓reduceIte, nQ1, nQ2, nQ3, nQ4, nQ5, nQ6, reduceCtorEq, vc24, rs24]
 exact ⟨_, W.in64 (by omega), _, W.in64 (by omega), rfl⟩
theorem dWith (d : Dv) (old v : Value) (ds : List De) (R : RO) (ho : old.oneCell' = true) (h : EdsV R v ds) :
  CallsR Tryz.prog 25 [.agg (dvCells d old).toArray, v] R fun R' r => ∃ v', r = .agg (dvCells d v').toArray ∧ EdsV R' v' ds := by
 have hdl : ds.length ≤ 1000000000 := by obtain ⟨_, _, _, _, h⟩ := h; exact h
 obtain ⟨a, cap, rfl, hc, hf⟩ := PlOK.of h
 simp only [dvCells]
 refine callsT mix Tryz.func25 comp25 (by simp [Tryz.ntmps25]) ?_; simp only [go_sem, ↓reduceIte, nQ1, nQ2, nQ3, nQ4, nQ5, nQ6, reduceCtorEq, vc25, rs25]
 refine ⟨by omega, by omega, ?_⟩
 refine vcLoopR (Nat × List Pl) (fun x => [(14, .val (.int .i64 x.1)), (13, .val (.int .i64 ds.length)), (12, .val (.slice a ds.length cap)), (2, .loc 0 0), (4, .loc 1 0)])
  (fun x => [.box [.val (.int .i64 d.id), .val (.int .i64 d.epoch), .val (.int .i64 d.next), .sl 2 x.2.length], .box [.val (.int .i64 0), .val (.int .i64 0), .val (.int .i64 0), .val (.slice none 0 0)], .row 31 13 (rowP x.2)])
  (fun x R => x.1 ≤ ds.length ∧ x.2.map (·.1) = ds.take x.1 ∧ ∀ p ∈ x.2, PlOK R p) (fun x => ds.length - x.1) (0, []) [] ?_ ?_ ?_ ?_
 ·(try simp only [go_sem, ↓reduceIte, nQ1, nQ2, nQ3, nQ4, nQ5, nQ6, reduceCtorEq]) <;> (repeat' (first | rfl | trivial | constructor | (intro h; exact absurd rfl h)))
 ·try simp only [go_sem, ↓reduceIte, nQ1, nQ2, nQ3, nQ4, nQ5, nQ6, reduceCtorEq]
 ·exact ⟨Nat.zero_le _, rfl, by simp⟩
 rintro ⟨i, ps⟩ env R1 hle1 hE ⟨hi, hps, hpo⟩
 (simp only [go_sem] at hE; obtain ⟨e14, e13, e12, e2, e4⟩ := hE; simp only [go_sem, ↓reduceIte, nQ1, nQ2, nQ3, nQ4, nQ5, nQ6, reduceCtorEq, e14, e13, e12, e2, e4]; dsimp only at *)
 have hpl : ps.length = i := by have := congrArg List.length hps; simp at this; omega
 refine ⟨fun hlt => ⟨hlt, ?_⟩, fun hge => ?_⟩
 ·have hlt' : i < ds.length := by omega
  obtain ⟨ad, p, had, hp1, hR, hpok⟩ := hf i hlt'
  have hcells : ∀ j u, (p.ed.cells)[j]? = some u → R1 ((ad.add (i * 13)).add j) u := fun j u hj => hle1 _ _ (hR j u hj)
  refine vat ad had ?_
  try simp only [go_sem, ↓reduceIte, nQ1, nQ2, nQ3, nQ4, nQ5, nQ6, reduceCtorEq]
  refine vloadn p.ed.cells rfl hcells ?_
  simp only [go_sem, ↓reduceIte, nQ1, nQ2, nQ3, nQ4, nQ5, nQ6, reduceCtorEq, Ed.cells, Pl.ed, De.ed, e14, e13, e12, e2, e4]
  have hC := dClone p.1 p.2.1 p.2.2.1 p.2.2.2 R1 (hpok.mono hle1)
  simp only [Ed.cells, De.ed] at hC
  refine vcall hC ?_
  rintro R2 v hle2 ⟨ra, rn, rc, rfl, hrv⟩
  simp only [go_sem, ↓reduceIte, nQ1, nQ2, nQ3, nQ4, nQ5, nQ6, reduceCtorEq, e14, e13, e12, e2, e4]
  refine vappO (rowP ps) rfl (by rw [rowP_len]) (by omega) ?_
  simp only [go_sem, ↓reduceIte, nQ1, nQ2, nQ3, nQ4, nQ5, nQ6, reduceCtorEq, e14, e13, e12, e2, e4]
  refine ⟨_, W.in64 (by omega), (i + 1, ps ++ [(p.1, ra, rn, rc)]), [0, 1, 5], ?_⟩
  try simp only [go_sem, ↓reduceIte, nQ1, nQ2, nQ3, nQ4, nQ5, nQ6, reduceCtorEq]
  refine ⟨by omega, ⟨rfl, by rw [rowP_snoc]; rfl⟩, by decide, by omega, ?_, fun q hq => ?_⟩
  ·rw [List.map_append, hps, List.take_succ_eq_append_getElem hlt', ← hp1]; rfl
  ·rcases List.mem_append.1 hq with hq | hq
   ·exact (hpo q hq).mono hle2
   ·simp only [List.mem_cons, List.not_mem_nil, or_false] at hq; subst hq; exact hrv
 ·obtain rfl : i = ds.length := by omega
  intro b cap' R2 hle2 hrow hcap hfr
  try simp only [go_sem, ↓reduceIte, nQ1, nQ2, nQ3, nQ4, nQ5, nQ6, reduceCtorEq, e2, e4]
  rw [List.take_length] at hps
  refine ⟨_, rfl, ?_⟩
  rw [← hps]
  exact EdsV.row hrow hcap (fun p hp => (hpo p hp).mono hle2) (by omega)
end Go.Proofs.YtcjdbfnnbejmeaaGreat
namespace Go.Proofs.YtcjdbfnnbejmeaaGreat
set_option linter.unusedSimpArgs false
set_option linter.unusedVariables false
open Go.Proofs.YtcjdbfnnbejmeaaGreat.Vc
/-! ### Package device: valid -/
theorem validD_seq {d : De} (h : validD d = true) : 1 ≤ d.seq ∧ d.seq ≤ 1099511627776 := by
 unfold validD validE betw at h
 simp only [Bool.and_eq_true, decide_eq_true_eq] at h
 exact h.1.1.2
theorem okEd_iff (n : Int) (e : De) : okEd n e = true ↔ validD e = true ∧ e.seq / 64 < n := by simp [okEd]
theorem cmpE_geq (a b : De) (ra rb : Option Addr) (rn rc rn' rc' : Nat) : (0 ≤ cmpE (a.ed ra rn rc) (b.ed rb rn' rc')) ↔ ¬ lessD a b = true := by
 have := cmpE_neg (a.ed ra rn rc) (b.ed rb rn' rc')
 rw [lessD_iff]
 simp only [De.ed] at this ⊢
 rw [← this]
 omega
theorem dValid (d : Dv) (v : Value) (R : RO) (h : EdsV R v d.edits) : CallsR Tryz.prog 21 [.agg (dvCells d v).toArray] R fun _ r => r = .bool (validV d) := by
 have hdl : d.edits.length ≤ 1000000000 := by obtain ⟨_, _, _, _, h⟩ := h; exact h
 obtain ⟨a, cap, rfl, hc, hf⟩ := PlOK.of h
 simp only [dvCells]
 refine callsT mix Tryz.func21 comp21 (by simp [Tryz.ntmps21]) ?_; simp only [go_sem, ↓reduceIte, nQ1, nQ2, nQ3, nQ4, nQ5, nQ6, reduceCtorEq, vc21, rs21]
 have hhdr : validV d = true → 0 ≤ d.id ∧ d.id ≤ 15 ∧ 0 ≤ d.epoch ∧ d.epoch ≤ 63 ∧ 1 ≤ d.next ∧ d.next ≤ 17179869184 ∧ d.edits.length ≤ 4096 := fun hT => by
  unfold validV hdrOK at hT
  simp only [Bool.and_eq_true, decide_eq_true_eq] at hT
  exact hT.1.1
 have hbad : ¬ (0 ≤ d.id ∧ d.id ≤ 15 ∧ 0 ≤ d.epoch ∧ d.epoch ≤ 63 ∧ 1 ≤ d.next ∧ d.next ≤ 17179869184 ∧ d.edits.length ≤ 4096) → Value.bool false = Value.bool (validV d) := fun hn => by
  cases hv : validV d with
  | false => rfl
  | true => exact absurd (hhdr hv) hn
 refine ⟨fun q1 => ⟨fun q2 => ⟨fun q3 => ⟨fun q4 => ⟨fun q5 => ⟨fun q6 => ⟨fun q7 => hbad (by omega), fun q7 => ?_⟩, fun q6 => hbad (by omega)⟩, fun q5 => hbad (by omega)⟩, fun q4 => hbad (by omega)⟩, fun q3 => hbad (by omega)⟩, fun q2 => hbad (by omega)⟩, fun q1 => hbad (by omega)⟩
 have hall : ∀ (i : Nat) (hi : i < d.edits.length), ¬ (okEd d.next d.edits[i] = true) → Value.bool false = Value.bool (validV d) := fun i hi hn => by
  cases hv : validV d with
  | false => rfl
  | true =>
   unfold validV at hv
   simp only [Bool.and_eq_true, decide_eq_true_eq, List.all_eq_true] at hv
   exact absurd (hv.1.2 _ (List.getElem_mem hi)) hn
 have hsrt : ∀ (i : Nat) (hi : i < d.edits.length), 0 < i → ¬ lessD (d.edits[i - 1]'(by omega)) d.edits[i] = true → Value.bool false = Value.bool (validV d) := fun i hi h0 hn => by
  cases hv : validV d with
  | false => rfl
  | true =>
   unfold validV at hv
   simp only [Bool.and_eq_true, decide_eq_true_eq] at hv
   exact absurd (List.pairwise_iff_getElem.1 hv.2 (i - 1) i (by omega) hi (by omega)) hn
 clear hbad hhdr
 refine vcLoop Nat (fun i => [(50, .val (.int .i64 i)), (49, .val (.int .i64 d.edits.length)), (48, .val (.slice a d.edits.length cap)), (1, .loc 0 0)])
  (fun _ => [.box [.val (.int .i64 d.id), .val (.int .i64 d.epoch), .val (.int .i64 d.next), .val (.slice a d.edits.length cap)]])
  (fun i _ => i ≤ d.edits.length ∧ (∀ e ∈ d.edits.take i, okEd d.next e = true) ∧ SortedD (d.edits.take i)) (fun i => d.edits.length - i) 0 ?_ ?_ ?_ ?_
 ·(try simp only [go_sem, ↓reduceIte, nQ1, nQ2, nQ3, nQ4, nQ5, nQ6, reduceCtorEq]) <;> (repeat' (first | rfl | trivial | constructor | (intro h; exact absurd rfl h)))
 ·try simp only [go_sem, ↓reduceIte, nQ1, nQ2, nQ3, nQ4, nQ5, nQ6, reduceCtorEq]
 ·exact ⟨Nat.zero_le _, by simp, List.Pairwise.nil⟩
 rintro i env R1 hle1 hE ⟨hi, hok, hso⟩
 (simp only [go_sem] at hE; obtain ⟨e50, e49, e48, e1⟩ := hE; simp only [go_sem, ↓reduceIte, nQ1, nQ2, nQ3, nQ4, nQ5, nQ6, reduceCtorEq, e50, e49, e48, e1]; dsimp only at *)
 refine ⟨fun hlt => ⟨hlt, ?_⟩, fun hge => ?_⟩
 ·have hlt' : i < d.edits.length := by omega
  obtain ⟨ad, p, had, hp1, hR, hpok⟩ := hf i hlt'
  have hcells : ∀ j u, (p.ed.cells)[j]? = some u → R1 ((ad.add (i * 13)).add j) u := fun j u hj => hle1 _ _ (hR j u hj)
  have htk := List.take_succ_eq_append_getElem hlt'
  have hA := hall i hlt'
  rw [← hp1] at htk hA
  refine vat ad had ?_
  try simp only [go_sem, ↓reduceIte, nQ1, nQ2, nQ3, nQ4, nQ5, nQ6, reduceCtorEq]
  refine vloadn p.ed.cells rfl hcells ?_
  simp only [go_sem, ↓reduceIte, nQ1, nQ2, nQ3, nQ4, nQ5, nQ6, reduceCtorEq, Ed.cells, Pl.ed, De.ed, e50, e49, e48, e1]
  refine vcall (eValid p.ed R1) ?_
  rintro R2 v hle2 rfl
  rw [validE_ed p hpok.len]
  simp only [go_sem, ↓reduceIte, nQ1, nQ2, nQ3, nQ4, nQ5, nQ6, reduceCtorEq, e50, e49, e48, e1]
  refine ⟨fun hv => ⟨by omega, ?_⟩, fun hv => hA (by rw [okEd_iff]; simp [hv])⟩
  have hsq := validD_seq hv
  have htd : p.1.seq.tdiv 64 = p.1.seq / 64 := tdiv_nonneg' (by omega) (by omega)
  refine ⟨_, W.in64 (by rw [htd]; omega), ?_⟩
  rw [htd]
  have hnew : ∀ R', RO.le R1 R' → p.1.seq / 64 < d.next → (0 < i → lessD (d.edits[i - 1]'(by omega)) p.1 = true) → (∀ e ∈ d.edits.take (i + 1), okEd d.next e = true) ∧ SortedD (d.edits.take (i + 1)) := fun R' _ hn hl => by
   rw [htk]
   refine ⟨fun e he => ?_, List.pairwise_append.2 ⟨hso, List.pairwise_singleton _ _, fun x hx y hy => ?_⟩⟩
   ·rcases List.mem_append.1 he with he | he
    ·exact hok e he
    ·simp only [List.mem_cons, List.not_mem_nil, or_false] at he; subst he
     rw [okEd_iff]; exact ⟨hv, hn⟩
   ·simp only [List.mem_cons, List.not_mem_nil, or_false] at hy; subst hy
    obtain ⟨j, hj, rfl⟩ := List.mem_take_iff_getElem.1 hx
    by_cases hji : j = i - 1
    ·subst hji; exact hl (by omega)
    ·have h1 := List.pairwise_iff_getElem.1 hso j (i - 1) (by simp; omega) (by simp; omega) (by omega)
     rw [List.getElem_take, List.getElem_take] at h1
     exact lessD_trans h1 (hl (by omega))
  refine ⟨fun hn => ⟨fun hpos => ?_, fun hz => ?_⟩, fun hn => hA (by rw [okEd_iff]; omega)⟩
  ·obtain ⟨ad', q, had', hq1, hR', hqok⟩ := hf (i - 1) (by omega)
   have hti : ((i : Int) - 1).toNat = i - 1 := by omega
   have hS := hsrt i hlt' (by omega)
   rw [← hp1, ← hq1] at hS
   refine ⟨_, W.in64 (by omega), by omega, by omega, ?_⟩
   rw [hti]
   refine vat ad' had' ?_
   try simp only [go_sem, ↓reduceIte, nQ1, nQ2, nQ3, nQ4, nQ5, nQ6, reduceCtorEq]
   refine vloadn q.ed.cells rfl (fun j u hj => hle2 _ _ (hle1 _ _ (hR' j u hj))) ?_
   simp only [go_sem, ↓reduceIte, nQ1, nQ2, nQ3, nQ4, nQ5, nQ6, reduceCtorEq, Ed.cells, Pl.ed, De.ed, e50, e49, e48, e1]
   refine vcall (dOrder q.ed p.ed R2) ?_
   rintro R3 v hle3 rfl
   simp only [go_sem, ↓reduceIte, nQ1, nQ2, nQ3, nQ4, nQ5, nQ6, reduceCtorEq, e50, e49, e48, e1]
   have hcg : (0 ≤ cmpE q.ed p.ed) ↔ ¬ lessD q.1 p.1 = true := cmpE_geq _ _ _ _ _ _ _ _
   refine ⟨fun h0 => hS (hcg.1 h0), fun h0 => ?_⟩
   have hl : lessD q.1 p.1 = true := by
    cases hq : lessD q.1 p.1 with
    | true => rfl
    | false => exact absurd (hcg.2 (by rw [hq]; simp)) h0
   refine ⟨_, W.in64 (by omega), i + 1, by omega, by constructor, by omega, ?_⟩
   exact hnew R3 (RO.le_trans hle2 hle3) (by omega) (fun _ => by rw [← hq1]; exact hl)
  ·obtain rfl : i = 0 := by omega
   refine ⟨_, W.in64 (by omega), 1, by omega, by constructor, by omega, ?_⟩
   exact hnew R2 hle2 (by omega) (fun h => absurd h (by omega))
 ·obtain rfl : i = d.edits.length := by omega
  rw [List.take_length] at hok hso
  have : validV d = true := by
   unfold validV hdrOK
   simp only [Bool.and_eq_true, decide_eq_true_eq, List.all_eq_true]
   exact ⟨⟨by omega, hok⟩, hso⟩
  rw [this]
end Go.Proofs.YtcjdbfnnbejmeaaGreat
namespace Go.Proofs.YtcjdbfnnbejmeaaGreat
set_option linter.unusedSimpArgs false
set_option linter.unusedVariables false
open Go.Proofs.YtcjdbfnnbejmeaaGreat.Vc
/-! ### Package device: Add, Restore -/
theorem EdsV.one {R : RO} {v : Value} {ds : List De} (h : EdsV R v ds) : v.oneCell' = true := by
 obtain ⟨_, _, rfl, _⟩ := h.form
 rfl
theorem validV_hdr {d : Dv} (h : validV d = true) : 0 ≤ d.id ∧ d.id ≤ 15 ∧ 0 ≤ d.epoch ∧ d.epoch ≤ 63 ∧ 1 ≤ d.next ∧ d.next ≤ 17179869184 ∧ d.edits.length ≤ 4096 := by
 unfold validV hdrOK at h
 simp only [Bool.and_eq_true, decide_eq_true_eq] at h
 exact h.1.1
theorem dAdd (d : Dv) (v : Value) (e : De) (ra : Option Addr) (rn rc : Nat) (R : RO) (h : EdsV R v d.edits) (he : RuleV R (.slice ra rn rc) e.rule) :
  CallsR Tryz.prog 8 [.agg (dvCells d v).toArray, .agg ((e.ed ra rn rc).cells).toArray] R fun R' r => DvR R' r (dvAdd d e) := by
 have hV := dValid d v
 have h0 := h
 have hrn := he.len
 subst hrn
 have hCl := dCloneEdits d.edits v
 have hSt := dStamp d v
 have hdl : d.edits.length ≤ 1000000000 := by obtain ⟨_, _, _, _, h⟩ := h; exact h
 obtain ⟨a, cap, rfl, hc, hf⟩ := h.form
 simp only [dvCells] at hV hSt ⊢
 simp only [Ed.cells, De.ed]
 refine callsT mix Tryz.func8 comp8 (by simp [Tryz.ntmps8]) ?_; simp only [go_sem, ↓reduceIte, nQ1, nQ2, nQ3, nQ4, nQ5, nQ6, reduceCtorEq, vc8, rs8]
 refine vcall (hV R h0) ?_
 rintro R1 r hle1 rfl
 try simp only [go_sem, ↓reduceIte, nQ1, nQ2, nQ3, nQ4, nQ5, nQ6, reduceCtorEq]
 unfold dvAdd
 refine ⟨fun hv => ?_, fun hv => ?_⟩
 ·refine vcall (eValid ⟨e.kind, e.day, 0, 1, e.mv, e.minute, e.length, ra, e.rule.length, rc, e.zone⟩ R1) ?_
  rintro R2 r hle2 rfl
  rw [show validE ⟨e.kind, e.day, 0, 1, e.mv, e.minute, e.length, ra, e.rule.length, rc, e.zone⟩ = validD (bareD e) from validE_ed (bareD e, ra, e.rule.length, rc) rfl]
  try simp only [go_sem, ↓reduceIte, nQ1, nQ2, nQ3, nQ4, nQ5, nQ6, reduceCtorEq]
  refine ⟨fun hb => ?_, fun hb => ⟨fun hl => ⟨fun hn => ?_, fun hn => ?_⟩, fun hl => ?_⟩⟩
  ·rw [if_neg (by rw [hb]; simp)]
   exact rfl
  ·rw [if_pos ⟨hv, hb⟩, if_pos (.inr hn)]
   exact rfl
  ·have hh := validV_hdr hv
   rw [if_pos ⟨hv, hb⟩, if_neg (by omega)]
   refine vhandE (hCl R2 ((h0.mono hle1).mono hle2)) rfl ?_
   rintro R3 bs r hle3 ⟨ps, hps, hpo, hbs⟩
   have hpl : ps.length = d.edits.length := by rw [← hps]; simp
   have hfin : ∀ R' w, RO.le R3 R' → EdsV R' w (d.edits ++ [stampD d e]) → DvR R' (.tuple #[.agg #[.int .i64 d.id, .int .i64 d.epoch, .int .i64 (d.next + 1), w], .int .i64 0]) (.ok ⟨d.id, d.epoch, d.next + 1, d.edits ++ [stampD d e]⟩) := fun R' w _ hw => ⟨w, rfl, hw⟩
   have hW := fun R' old w ds ho hw => dWith ⟨d.id, d.epoch, d.next + 1, []⟩ old w ds R' ho hw
   simp only [dvCells] at hW
   obtain ⟨q, hq⟩ : ∃ q : Pl, q = (stampD d e, ra, e.rule.length, rc) := ⟨_, rfl⟩
   have hqok : ∀ R', RO.le R R' → PlOK R' q := fun R' hle => by rw [hq]; exact he.mono hle
   have hq1 : q.1 = stampD d e := by rw [hq]
   have hqc : q.ed.cells = [.int .i64 e.kind, .int .i64 e.day, .int .i64 d.id, .int .i64 (64 * d.next + d.epoch), .int .i64 e.mv.day, .bool e.mv.drop, .int .i64 e.mv.toDay, .int .i64 e.mv.minute, .int .i64 e.mv.length, .int .i64 e.minute, .int .i64 e.length, .slice ra e.rule.length rc, .string e.zone] := by rw [hq]; rfl
   have hrowE : ∀ R' b cap, RO.le R3 R' → RowIn R' b (rowP (ps ++ [q])) → (rowP (ps ++ [q])).length ≤ cap * 13 → EdsV R' (.slice (some ⟨b, 0, none⟩) (d.edits.length + 1) cap) (d.edits ++ [stampD d e]) := fun R' b cap hle hrow hcap => by
    have h1 := EdsV.row hrow hcap (fun p hp => by
     rcases List.mem_append.1 hp with hp | hp
     ·exact (hpo p hp).mono hle
     ·simp only [List.mem_cons, List.not_mem_nil, or_false] at hp; subst hp
      exact hqok R' (RO.le_trans hle1 (RO.le_trans hle2 (RO.le_trans hle3 hle)))) (by simp; omega)
    rw [List.map_append, hps, List.map_cons, List.map_nil, hq1, List.length_append, hpl] at h1
    exact h1
   have hrg : List.range' 4 2 = [4, 5] := rfl
   rcases hbs with ⟨hnil, rfl, rfl⟩ | ⟨rfl, rfl⟩
   ·have hp0 : ps = [] := List.eq_nil_of_length_eq_zero (by rw [hpl, hnil]; rfl)
    try simp only [go_sem, ↓reduceIte, nQ1, nQ2, nQ3, nQ4, nQ5, nQ6, reduceCtorEq]
    refine vcall (hSt ⟨e.kind, e.day, 0, 1, e.mv, e.minute, e.length, ra, e.rule.length, rc, e.zone⟩ rfl ⟨by omega, by omega, by omega, by omega⟩ R3) ?_
    rintro R4 r hle4 rfl
    simp only [Ed.val]
    try simp only [go_sem, ↓reduceIte, nQ1, nQ2, nQ3, nQ4, nQ5, nQ6, reduceCtorEq]
    refine ⟨_, W.in64 (by omega), ?_⟩
    refine vfreeze ?_
    try simp only [go_sem, ↓reduceIte, nQ1, nQ2, nQ3, nQ4, nQ5, nQ6, reduceCtorEq, hrg, renB]
    intro b cap' R5 hle5 hrow hcap' hfr
    have hE := hrowE R5 b cap' (RO.le_trans hle4 hle5) (by rw [hp0]; simp only [List.nil_append]; rw [show rowP [q] = q.ed.cells from by simp [rowP], hqc]; exact hrow) (by rw [hp0]; simp only [List.nil_append]; rw [show rowP [q] = q.ed.cells from by simp [rowP], hqc]; exact hcap')
    rw [show d.edits.length + 1 = 1 by rw [hnil]; rfl] at hE
    refine vcall (hW R5 _ _ _ rfl hE) ?_
    rintro R6 w hle6 ⟨v', rfl, hv'⟩
    have hv1 := hv'.one
    obtain ⟨va, vc, rfl, _⟩ := hv'.form
    try simp only [go_sem, ↓reduceIte, nQ1, nQ2, nQ3, nQ4, nQ5, nQ6, reduceCtorEq]
    rw [List.length_append] at hv'
    exact hfin R6 _ (RO.le_trans hle4 (RO.le_trans hle5 hle6)) hv'
   ·try simp only [go_sem, ↓reduceIte, nQ1, nQ2, nQ3, nQ4, nQ5, nQ6, reduceCtorEq]
    refine vcall (hSt ⟨e.kind, e.day, 0, 1, e.mv, e.minute, e.length, ra, e.rule.length, rc, e.zone⟩ rfl ⟨by omega, by omega, by omega, by omega⟩ R3) ?_
    rintro R4 r hle4 rfl
    simp only [Ed.val]
    try simp only [go_sem, ↓reduceIte, nQ1, nQ2, nQ3, nQ4, nQ5, nQ6, reduceCtorEq]
    refine vappO (rowP ps) rfl (by rw [rowP_len, hpl]) (by omega) ?_
    try simp only [go_sem, ↓reduceIte, nQ1, nQ2, nQ3, nQ4, nQ5, nQ6, reduceCtorEq, hrg, renB]
    refine ⟨_, W.in64 (by omega), ?_⟩
    refine vfreeze ?_
    try simp only [go_sem, ↓reduceIte, nQ1, nQ2, nQ3, nQ4, nQ5, nQ6, reduceCtorEq, hrg, renB]
    intro b cap' R5 hle5 hrow hcap' hfr
    refine vcall (hW R5 _ _ _ rfl (hrowE R5 b cap' (RO.le_trans hle4 hle5) (by rw [rowP_snoc, hqc]; exact hrow) (by rw [rowP_snoc, hqc, List.length_append]; exact hcap'))) ?_
    rintro R6 w hle6 ⟨v', rfl, hv'⟩
    have hv1 := hv'.one
    obtain ⟨va, vc, rfl, _⟩ := hv'.form
    try simp only [go_sem, ↓reduceIte, nQ1, nQ2, nQ3, nQ4, nQ5, nQ6, reduceCtorEq]
    rw [List.length_append] at hv'
    exact hfin R6 _ (RO.le_trans hle4 (RO.le_trans hle5 hle6)) hv'
  ·rw [if_pos ⟨hv, hb⟩, if_pos (.inl (by omega))]
   exact rfl
 ·rw [if_neg (by rw [hv]; simp)]
  exact rfl
theorem dRestore (d : Dv) (v : Value) (ep : Int) (R : RO) (h : EdsV R v d.edits) : CallsR Tryz.prog 12 [.agg (dvCells d v).toArray, .int .i64 ep] R fun R' r => DvR R' r (dvRestore d ep) := by
 have hV := dValid d v
 have h0 := h
 have hW := fun R' old w ds ho hw => dWith ⟨d.id, ep, d.next, []⟩ old w ds R' ho hw
 obtain ⟨a, cap, rfl, hc, hf⟩ := h.form
 simp only [dvCells] at hV hW ⊢
 refine callsT mix Tryz.func12 comp12 (by simp [Tryz.ntmps12]) ?_; simp only [go_sem, ↓reduceIte, nQ1, nQ2, nQ3, nQ4, nQ5, nQ6, reduceCtorEq, vc12, rs12]
 refine vcall (hV R h0) ?_
 rintro R1 r hle1 rfl
 try simp only [go_sem, ↓reduceIte, nQ1, nQ2, nQ3, nQ4, nQ5, nQ6, reduceCtorEq]
 unfold dvRestore
 refine ⟨fun hv => ⟨fun h1 => ⟨fun h2 => ?_, fun h2 => ⟨fun h3 => ?_, fun h3 => ?_⟩⟩, fun h1 => ?_⟩, fun hv => ?_⟩
 ·rw [if_neg (by omega)]; exact rfl
 ·rw [if_pos ⟨hv, by omega, by omega⟩, if_pos h3]; exact rfl
 ·rw [if_pos ⟨hv, by omega, by omega⟩, if_neg h3]
  refine vcall (hW R1 _ _ _ rfl (h0.mono hle1)) ?_
  rintro R2 w hle2 ⟨v', rfl, hv'⟩
  have hv1 := hv'.one
  obtain ⟨va, vc, rfl, _⟩ := hv'.form
  try simp only [go_sem, ↓reduceIte, nQ1, nQ2, nQ3, nQ4, nQ5, nQ6, reduceCtorEq]
  exact ⟨_, rfl, hv'⟩
 ·rw [if_neg (by omega)]; exact rfl
 ·rw [if_neg (by rw [hv]; simp)]; exact rfl
end Go.Proofs.YtcjdbfnnbejmeaaGreat
namespace Go.Proofs.YtcjdbfnnbejmeaaGreat
set_option linter.unusedSimpArgs false
set_option linter.unusedVariables false
open Go.Proofs.YtcjdbfnnbejmeaaGreat.Vc
/-! ### The reference's order and validity -/
theorem rLess (a b : Ed) (R : RO) : CallsR Tryz.prog 40 [a.val, b.val] R fun _ v => v = .bool (lessE a b) := by
 simp only [Ed.val]
 refine callsT mix Tryz.func40 comp40 (by simp [Tryz.ntmps40]) ?_; simp only [go_sem, ↓reduceIte, nQ1, nQ2, nQ3, nQ4, nQ5, nQ6, reduceCtorEq, vc40, rs40]
 unfold lessE
 repeat' (with_reducible first | refine And.intro ?_ ?_ | intro _)
 all_goals (congr 1)
 all_goals first
  | rfl
  | (simp; done)
  | (simp; omega)
  | (rw [decide_eq_decide]; omega)
  | (symm; rw [decide_eq_true_iff]; omega)
  | (symm; rw [decide_eq_false_iff_not]; omega)
theorem rValidMove (m : Mv) (R : RO) : CallsR Tryz.prog 41 [m.val] R fun _ v => v = .bool (moveOK m) := by
 obtain ⟨day, drop, toDay, minute, length⟩ := m
 simp only [Mv.val]
 refine callsT mix Tryz.func41 comp41 (by simp [Tryz.ntmps41]) ?_; simp only [go_sem, ↓reduceIte, nQ1, nQ2, nQ3, nQ4, nQ5, nQ6, reduceCtorEq, vc41, rs41]
 unfold moveOK betw
 cases drop
 all_goals dsimp only
 all_goals repeat' (with_reducible first | refine And.intro ?_ ?_ | intro _)
 all_goals (congr 1)
 all_goals first
  | rfl
  | (simp; done)
  | (simp; omega)
  | (simp_all; done)
  | (simp_all; omega)
end Go.Proofs.YtcjdbfnnbejmeaaGreat
namespace Go.Proofs.YtcjdbfnnbejmeaaGreat
set_option linter.unusedSimpArgs false
set_option linter.unusedVariables false
open Go.Proofs.YtcjdbfnnbejmeaaGreat.Vc
theorem zone_z (z : ByteArray) : (z == ⟨#[]⟩) = decide ((z.size : Int) = 0) := by
 obtain ⟨a⟩ := z
 by_cases h : a = #[]
 ·subst h; rfl
 ·have h1 : ((⟨a⟩ : ByteArray) == ⟨#[]⟩) = false := by
   cases hb : ((⟨a⟩ : ByteArray) == ⟨#[]⟩) with
   | false => rfl
   | true =>
    exfalso
    have h2 : (a == #[]) = true := hb
    exact h (by simpa using h2)
  rw [h1]
  symm
  rw [decide_eq_false_iff_not]
  intro h2
  have h3 : a.size = 0 := by
   have : (⟨a⟩ : ByteArray).size = a.size := rfl
   omega
  exact h (by simpa using h3)
set_option maxRecDepth 100000 in
set_option maxHeartbeats 4000000 in
theorem rValidE (e : Ed) (R : RO) : CallsR Tryz.prog 27 [e.val] R fun _ v => v = .bool (validE e) := by
  have hm := rValidMove e.mv
  simp only [Ed.val, Mv.val] at hm ⊢
  refine callsT mix Tryz.func27 comp27 (by simp [Tryz.ntmps27]) ?_; simp only [go_sem, ↓reduceIte, nQ1, nQ2, nQ3, nQ4, nQ5, nQ6, reduceCtorEq, vc27, rs27]
  repeat' (with_reducible first
    | refine And.intro ?_ ?_
    | intro _
    | (refine vcall (hm _) ?_; rintro _ _ _ rfl; try simp only [go_sem, ↓reduceIte, nQ1, nQ2, nQ3, nQ4, nQ5, nQ6, reduceCtorEq]))
  all_goals (congr 1)
  all_goals (unfold validE kindE betw restZ mvZ)
  all_goals first
    | (simp_all [empty_beq]; done)
    | (simp_all [empty_beq]; omega)
    | (simp only [zone_z] at *; simp_all; done)
    | (simp only [zone_z] at *; simp_all; omega)
    | (have hzs : (e.zone == ⟨#[]⟩) = false → 1 ≤ (e.zone.size : Int) := fun h => by rw [zone_z, decide_eq_false_iff_not] at h; omega
       simp_all [empty_beq]; done)
end Go.Proofs.YtcjdbfnnbejmeaaGreat
namespace Go.Proofs.YtcjdbfnnbejmeaaGreat
set_option linter.unusedSimpArgs false
set_option linter.unusedVariables false
open Go.Proofs.YtcjdbfnnbejmeaaGreat.Vc
attribute [local go_sem low] inScope_one
/-! ### Package device: merge -/
theorem hbOrder : hasBody Tryz.prog 29 = true := by kernel_rfl
theorem hbSync1 : hasBody Tryz.prog 30 = true := by kernel_rfl
theorem hbLacks1 : hasBody Tryz.prog 35 = true := by kernel_rfl
theorem dLacks1 (x y : Ed) (R : RO) : CallsR Tryz.prog 35 [x.val, y.val] R fun _ _ => True := by
 simp only [Ed.val]
 refine callsT mix Tryz.func35 comp35 (by simp [Tryz.ntmps35]) ?_; simp only [go_sem, ↓reduceIte, nQ1, nQ2, nQ3, nQ4, nQ5, nQ6, reduceCtorEq, vc35, rs35]
 done
theorem dSync1 (x y : De) (ra rb : Option Addr) (rn rc rn' rc' : Nat) (ok : Bool) (R : RO) (hx : RuleV R (.slice ra rn rc) x.rule) (hy : RuleV R (.slice rb rn' rc') y.rule) (hk : keyEq x y = true) :
  CallsS Tryz.prog 30 [.val (.agg ((x.ed ra rn rc).cells).toArray), .val (.agg ((y.ed rb rn' rc').cells).toArray), .loc 0 0] [.box [.val (.bool ok)]] R fun R' bs _ => ∃ b1 b2, bs = [.box [.val (.bool (ok && decide (x = y)))], b1, b2] := by
 simp only [Ed.cells, De.ed]
 have hS := fun R' (hle : RO.le R R') => dSame x y ((x.ed ra rn rc).cells) ((y.ed rb rn' rc').cells) R' ⟨ra, rn, rc, rfl, hx.mono hle⟩ ⟨rb, rn', rc', rfl, hy.mono hle⟩ hk
 simp only [Ed.cells, De.ed] at hS
 refine callsTS mix Tryz.func30 comp30 (by simp [Tryz.ntmps30]) rfl rfl ?_; simp only [go_sem, ↓reduceIte, nQ1, nQ2, nQ3, nQ4, nQ5, nQ6, reduceCtorEq, vc30, rs30]
 refine ⟨fun hok => ?_, fun hok => ?_⟩
 ·refine vcall (hS R (RO.le_refl _)) ?_
  rintro R1 r hle1 rfl
  rw [hok]
  try simp only [go_sem, ↓reduceIte, nQ1, nQ2, nQ3, nQ4, nQ5, nQ6, reduceCtorEq]
  exact ⟨_, _, rfl, rfl, rfl⟩
 ·rw [hok]
  exact ⟨_, _, rfl, rfl, rfl⟩
def MrgV (R : RO) (r : Value) (all fresh : List De) : Prop := ∃ u v, r = .tuple #[u, v] ∧ EdsV R u all ∧ EdsV R v fresh
theorem EdsV.tail {R : RO} {a : Option Addr} {c : Nat} {x : De} {l : List De} (h : EdsV R (.slice a (l.length + 1) c) (x :: l)) : EdsV R (.slice (if c = 1 then a else a.map (·.add (1 * 13))) (l.length + 1 - 1) (c - 1)) l := by
 have := EdsV.sub (l := 1) (u := l.length + 1) (ds := x :: l) h (by omega) (by simp)
 simpa using this
theorem mgo_lt {x : De} {xs ys : List De} {k : Nat} (h : ys = [] ∨ ∃ y ys2, ys = y :: ys2 ∧ lessD x y = true) : mgo (k + 1) (x :: xs) ys = (x :: (mgo k xs ys).1, (mgo k xs ys).2.1, (mgo k xs ys).2.2) := by
 rcases h with rfl | ⟨y, ys2, rfl, h⟩
 ·rfl
 ·rw [mgo, if_pos h]
theorem mgo_gt {y : De} {xs ys : List De} {k : Nat} (h : xs = [] ∨ ∃ x xs2, xs = x :: xs2 ∧ lessD x y = false ∧ lessD y x = true) : mgo (k + 1) xs (y :: ys) = (y :: (mgo k xs ys).1, y :: (mgo k xs ys).2.1, (mgo k xs ys).2.2) := by
 rcases h with rfl | ⟨x, xs2, rfl, h1, h2⟩
 ·rfl
 ·rw [mgo, if_neg (by rw [h1]; simp), if_pos h2]
theorem mgo_eq {x y : De} {xs ys : List De} {k : Nat} (h1 : lessD x y = false) (h2 : lessD y x = false) : mgo (k + 1) (x :: xs) (y :: ys) = (x :: (mgo k xs ys).1, (mgo k xs ys).2.1, decide (x = y) && (mgo k xs ys).2.2) := by
 rw [mgo, if_neg (by rw [h1]; simp), if_neg (by rw [h2]; simp)]
theorem cmpE_cases (p q : Pl) : (cmpE p.ed q.ed < 0 ∧ lessD p.1 q.1 = true) ∨ (0 < cmpE p.ed q.ed ∧ lessD p.1 q.1 = false ∧ lessD q.1 p.1 = true) ∨ (cmpE p.ed q.ed = 0 ∧ lessD p.1 q.1 = false ∧ lessD q.1 p.1 = false) := by
 have hs : p.ed.seq = p.1.seq ∧ p.ed.device = p.1.device ∧ q.ed.seq = q.1.seq ∧ q.ed.device = q.1.device := ⟨rfl, rfl, rfl, rfl⟩
 obtain ⟨h1, h2, h3, h4⟩ := hs
 simp only [lessD_iff, lessD_false]
 unfold cmpE cmpI
 rw [h1, h2, h3, h4]
 repeat' split
 all_goals omega
set_option maxHeartbeats 8000000 in
theorem dMergeL (xs ys : List De) (va vb : Value) (R : RO) (ha : EdsV R va xs) (hb : EdsV R vb ys) (hla : xs.length ≤ 4096) (hlb : ys.length ≤ 4096) :
    CallsR Tryz.prog 28 [va, vb, .func (.func 29) #[] #[], .func (.func 35) #[] #[]] R fun R' r => MrgV R' r (mgo (xs.length + ys.length) xs ys).1 (mgo (xs.length + ys.length) xs ys).2.1 := by
  obtain ⟨a0, c0, rfl, _⟩ := ha.form
  obtain ⟨b0, d0, rfl, _⟩ := hb.form
  obtain ⟨A, hA⟩ : ∃ A, A = (mgo (xs.length + ys.length) xs ys).1 := ⟨_, rfl⟩
  obtain ⟨F, hF⟩ : ∃ F, F = (mgo (xs.length + ys.length) xs ys).2.1 := ⟨_, rfl⟩
  obtain ⟨G, hG⟩ : ∃ G, G = (mgo (xs.length + ys.length) xs ys).2.2 := ⟨_, rfl⟩
  rw [← hA, ← hF]
  refine callsT mix Tryz.func28 comp28 (by simp [Tryz.ntmps28]) ?_; simp only [go_sem, ↓reduceIte, nQ1, nQ2, nQ3, nQ4, nQ5, nQ6, reduceCtorEq, vc28, rs28]
  refine vcLoopR ((Option Addr × Nat × List De) × (Option Addr × Nat × List De) × List Pl × List Pl × Bool) (fun x => [(0, .val (.slice x.1.1 x.1.2.2.length x.1.2.1)), (1, .val (.slice x.2.1.1 x.2.1.2.2.length x.2.1.2.1)), (2, .val (.func (.func 29) #[] #[])), (3, .val (.func (.func 35) #[] #[])), (8, gs 0 x.2.2.1.length), (9, gs 1 x.2.2.2.1.length)])
    (fun x => [gb 31 13 (rowP x.2.2.1), gb 31 13 (rowP x.2.2.2.1)])
    (fun x R => EdsV R (.slice x.1.1 x.1.2.2.length x.1.2.1) x.1.2.2 ∧ EdsV R (.slice x.2.1.1 x.2.1.2.2.length x.2.1.2.1) x.2.1.2.2 ∧ (∀ p ∈ x.2.2.1, PlOK R p) ∧ (∀ p ∈ x.2.2.2.1, PlOK R p) ∧ x.2.2.1.length + x.1.2.2.length + x.2.1.2.2.length ≤ 8192 ∧ x.2.2.2.1.length + x.2.1.2.2.length ≤ 4096 ∧
      ∃ n, x.1.2.2.length + x.2.1.2.2.length ≤ n ∧ x.2.2.1.map (·.1) ++ (mgo n x.1.2.2 x.2.1.2.2).1 = A ∧ x.2.2.2.1.map (·.1) ++ (mgo n x.1.2.2 x.2.1.2.2).2.1 = F ∧ (x.2.2.2.2 && (mgo n x.1.2.2 x.2.1.2.2).2.2) = G) (fun x => x.1.2.2.length + x.2.1.2.2.length) ((a0, c0, xs), (b0, d0, ys), [], [], true) [] ?_ ?_ ?_ ?_
  · (try simp only [go_sem, ↓reduceIte, nQ1, nQ2, nQ3, nQ4, nQ5, nQ6, reduceCtorEq]) <;> (repeat' (first | rfl | trivial | constructor | (intro h; exact absurd rfl h)))
  · try simp only [go_sem, ↓reduceIte, nQ1, nQ2, nQ3, nQ4, nQ5, nQ6, reduceCtorEq]
  · exact ⟨ha, hb, by simp, by simp, by simp; omega, by simp; omega, _, Nat.le_refl _, by rw [hA]; rfl, by rw [hF]; rfl, by rw [hG]; simp⟩
  rintro ⟨⟨a, c, xs⟩, ⟨b, d, ys⟩, ps, qs, ok⟩ env R1 hle1 hE ⟨ha1, hb1, hpo, hqo, hl1, hl2, n, hn, hgA, hgF, hgG⟩
  clear ha hb hA hF hG hla hlb
  dsimp only at ha1 hb1 hpo hqo hl1 hl2 hn hgA hgF hgG
  simp only [go_sem] at hE
  obtain ⟨e0, e1, e2, e3, e8, e9⟩ := hE
  rw [tCode_seq]
  by_cases hend : xs.length = 0 ∧ ys.length = 0
  · obtain ⟨h1, h2⟩ := hend
    obtain rfl : xs = [] := List.eq_nil_of_length_eq_zero h1
    obtain rfl : ys = [] := List.eq_nil_of_length_eq_zero h2
    have hm : mgo n [] [] = ([], [], true) := by cases n <;> rfl
    rw [hm] at hgA hgF hgG
    simp only [List.append_nil, Bool.and_true] at hgA hgF hgG
    subst hgA hgF hgG
    have hgP : ps.length ≠ 0 → gb 31 13 (rowP ps) = .row 31 13 (rowP ps) := fun h1 => gb_ne (fun e => h1 (by have := rowP_len ps; rw [e] at this; simp at this; omega))
    have hgQ : qs.length ≠ 0 → gb 31 13 (rowP qs) = .row 31 13 (rowP qs) := fun h1 => gb_ne (fun e => h1 (by have := rowP_len qs; rw [e] at this; simp at this; omega))
    have hE0 : ∀ (R' : RO) (l : List Pl), l.length = 0 → EdsV R' (.slice none 0 0) (l.map (·.1)) := fun R' l h => by rw [List.eq_nil_of_length_eq_zero h]; exact EdsV.nil R'
    by_cases h1 : ps.length = 0
    · rw [h1] at e8
      by_cases h2 : qs.length = 0
      · rw [h2] at e9
        try simp only [go_sem, ↓reduceIte, nQ1, nQ2, nQ3, nQ4, nQ5, nQ6, reduceCtorEq, iQ1, iQ2, iQ3, iQ4, iQ5, iQ6, e0, e1, e2, e3, e8, e9]
        exact ⟨_, _, rfl, hE0 _ _ h1, hE0 _ _ h2⟩
      · rw [gs_pos h2] at e9
        rw [hgQ h2]
        try simp only [go_sem, ↓reduceIte, nQ1, nQ2, nQ3, nQ4, nQ5, nQ6, reduceCtorEq, iQ1, iQ2, iQ3, iQ4, iQ5, iQ6, e0, e1, e2, e3, e8, e9]
        intro b1 cap1 R2 hle2 hrow hcap hfr
        try simp only [go_sem, ↓reduceIte, nQ1, nQ2, nQ3, nQ4, nQ5, nQ6, reduceCtorEq, iQ1, iQ2, iQ3, iQ4, iQ5, iQ6, e0, e1, e2, e3, e8, e9]
        exact ⟨_, _, rfl, hE0 _ _ h1, EdsV.row hrow hcap (fun p hp => (hqo p hp).mono hle2) (by omega)⟩
    · rw [gs_pos h1] at e8
      rw [hgP h1]
      by_cases h2 : qs.length = 0
      · rw [h2] at e9
        try simp only [go_sem, ↓reduceIte, nQ1, nQ2, nQ3, nQ4, nQ5, nQ6, reduceCtorEq, iQ1, iQ2, iQ3, iQ4, iQ5, iQ6, e0, e1, e2, e3, e8, e9]
        intro b1 cap1 R2 hle2 hrow hcap hfr
        try simp only [go_sem, ↓reduceIte, nQ1, nQ2, nQ3, nQ4, nQ5, nQ6, reduceCtorEq, iQ1, iQ2, iQ3, iQ4, iQ5, iQ6, e0, e1, e2, e3, e8, e9]
        exact ⟨_, _, rfl, EdsV.row hrow hcap (fun p hp => (hpo p hp).mono hle2) (by omega), hE0 _ _ h2⟩
      · rw [gs_pos h2] at e9
        rw [hgQ h2]
        try simp only [go_sem, ↓reduceIte, nQ1, nQ2, nQ3, nQ4, nQ5, nQ6, reduceCtorEq, iQ1, iQ2, iQ3, iQ4, iQ5, iQ6, e0, e1, e2, e3, e8, e9]
        intro b1 cap1 R2 hle2 hrow hcap hfr
        try simp only [go_sem, ↓reduceIte, nQ1, nQ2, nQ3, nQ4, nQ5, nQ6, reduceCtorEq, iQ1, iQ2, iQ3, iQ4, iQ5, iQ6, e0, e1, e2, e3, e8, e9]
        intro b2 cap2 R3 hle3 hrow2 hcap2 hfr2
        try simp only [go_sem, ↓reduceIte, nQ1, nQ2, nQ3, nQ4, nQ5, nQ6, reduceCtorEq, iQ1, iQ2, iQ3, iQ4, iQ5, iQ6, e0, e1, e2, e3, e8, e9]
        exact ⟨_, _, rfl, (EdsV.row hrow hcap (fun p hp => (hpo p hp).mono hle2) (by omega)).mono hle3, EdsV.row hrow2 hcap2 (fun p hp => (hqo p hp).mono (RO.le_trans hle2 hle3)) (by omega)⟩
  refine cutT (fun s' => ∃ env, s' = ⟨env, [gb 31 13 (rowP ps), gb 31 13 (rowP qs)], R1⟩ ∧ env 0 = .val (.slice a xs.length c) ∧ env 1 = .val (.slice b ys.length d) ∧ env 2 = .val (.func (.func 29) #[] #[]) ∧ env 3 = .val (.func (.func 35) #[] #[]) ∧ env 8 = gs 0 ps.length ∧ env 9 = gs 1 qs.length) ?_ ?_
  · try simp only [go_sem, ↓reduceIte, nQ1, nQ2, nQ3, nQ4, nQ5, nQ6, reduceCtorEq, iQ1, iQ2, iQ3, iQ4, iQ5, iQ6, e0, e1, e2, e3, e8, e9]
    refine ⟨fun h0 => ⟨fun h1 => ⟨_, rfl, e0, e1, e2, e3, e8, e9⟩, fun h1 => absurd ⟨by omega, by omega⟩ hend⟩, fun h0 => ⟨_, rfl, e0, e1, e2, e3, e8, e9⟩⟩
  rintro s' ⟨env, rfl, f0, f1, f2, f3, f8, f9⟩
  clear e0 e1 e2 e3 e8 e9
  rw [tCode_block, tCode_seq]
  refine cutT (fun s' => ∃ env, s' = ⟨env, [gb 31 13 (rowP ps), gb 31 13 (rowP qs)], R1⟩ ∧ env 0 = .val (.slice a xs.length c) ∧ env 1 = .val (.slice b ys.length d) ∧ env 2 = .val (.func (.func 29) #[] #[]) ∧ env 3 = .val (.func (.func 35) #[] #[]) ∧ env 8 = gs 0 ps.length ∧ env 9 = gs 1 qs.length) ?_ ?_
  · try simp only [go_sem, ↓reduceIte, nQ1, nQ2, nQ3, nQ4, nQ5, nQ6, reduceCtorEq, iQ1, iQ2, iQ3, iQ4, iQ5, iQ6, f0, f1, f2, f3, f8, f9]
    exact ⟨_, rfl, f0, f1, f2, f3, f8, f9⟩
  rintro s' ⟨env, rfl, f0, f1, f2, f3, f8, f9⟩
  rw [tCode_seq]
  refine cutT (fun s' => ∃ env R2 k, s' = ⟨env, [gb 31 13 (rowP ps), gb 31 13 (rowP qs)], R2⟩ ∧ RO.le R1 R2 ∧ env 0 = .val (.slice a xs.length c) ∧ env 1 = .val (.slice b ys.length d) ∧ env 2 = .val (.func (.func 29) #[] #[]) ∧ env 3 = .val (.func (.func 35) #[] #[]) ∧ env 8 = gs 0 ps.length ∧ env 9 = gs 1 qs.length ∧ env 10 = .val (.int .i64 k) ∧
    ((k < 0 ∧ ∃ x xs2, xs = x :: xs2 ∧ (ys = [] ∨ ∃ y ys2, ys = y :: ys2 ∧ lessD x y = true)) ∨ (0 < k ∧ ∃ y ys2, ys = y :: ys2 ∧ (xs = [] ∨ ∃ x xs2, xs = x :: xs2 ∧ lessD x y = false ∧ lessD y x = true)) ∨
      (k = 0 ∧ ∃ x xs2 y ys2, xs = x :: xs2 ∧ ys = y :: ys2 ∧ lessD x y = false ∧ lessD y x = false))) ?_ ?_
  · by_cases hx : xs.length = 0
    · try simp only [go_sem, ↓reduceIte, nQ1, nQ2, nQ3, nQ4, nQ5, nQ6, reduceCtorEq, iQ1, iQ2, iQ3, iQ4, iQ5, iQ6, f0, f1, f2, f3, f8, f9, eq_true (show (xs.length : Int) = 0 by omega)]
      obtain ⟨y, ys2, hy⟩ := List.exists_cons_of_length_pos (show 0 < ys.length by omega)
      exact ⟨_, R1, 1, rfl, RO.le_refl _, f0, f1, f2, f3, f8, f9, rfl, .inr (.inl ⟨by omega, y, ys2, hy, .inl (List.eq_nil_of_length_eq_zero hx)⟩)⟩
    obtain ⟨x, xs2, hxe⟩ := List.exists_cons_of_length_pos (show 0 < xs.length by omega)
    by_cases hy : ys.length = 0
    · try simp only [go_sem, ↓reduceIte, nQ1, nQ2, nQ3, nQ4, nQ5, nQ6, reduceCtorEq, iQ1, iQ2, iQ3, iQ4, iQ5, iQ6, f0, f1, f2, f3, f8, f9, eq_false (show ¬ (xs.length : Int) = 0 by omega), eq_true (show (ys.length : Int) = 0 by omega)]
      exact ⟨_, R1, -1, rfl, RO.le_refl _, f0, f1, f2, f3, f8, f9, rfl, .inl ⟨by omega, x, xs2, hxe, .inl (List.eq_nil_of_length_eq_zero hy)⟩⟩
    obtain ⟨y, ys2, hye⟩ := List.exists_cons_of_length_pos (show 0 < ys.length by omega)
    obtain ⟨_, _, ea, _, hfa⟩ := PlOK.of ha1
    simp only [Value.slice.injEq] at ea
    obtain ⟨rfl, _, rfl⟩ := ea
    obtain ⟨_, _, eb, _, hfb⟩ := PlOK.of hb1
    simp only [Value.slice.injEq] at eb
    obtain ⟨rfl, _, rfl⟩ := eb
    obtain ⟨ad, p, had, hp1, hRp, hpok⟩ := hfa 0 (by omega)
    obtain ⟨bd, q, hbd, hq1, hRq, hqok⟩ := hfb 0 (by omega)
    rw [Nat.zero_mul] at hRp hRq
    try simp only [go_sem, ↓reduceIte, nQ1, nQ2, nQ3, nQ4, nQ5, nQ6, reduceCtorEq, iQ1, iQ2, iQ3, iQ4, iQ5, iQ6, f0, f1, f2, f3, f8, f9, eq_false (show ¬ (xs.length : Int) = 0 by omega), eq_false (show ¬ (ys.length : Int) = 0 by omega)]
    refine ⟨by omega, vat ad had ?_⟩
    try simp only [go_sem, ↓reduceIte, nQ1, nQ2, nQ3, nQ4, nQ5, nQ6, reduceCtorEq, iQ1, iQ2, iQ3, iQ4, iQ5, iQ6, f0, f1, f2, f3, f8, f9]
    refine vloadn p.ed.cells rfl hRp ?_
    try simp only [go_sem, ↓reduceIte, nQ1, nQ2, nQ3, nQ4, nQ5, nQ6, reduceCtorEq, iQ1, iQ2, iQ3, iQ4, iQ5, iQ6, f0, f1, f2, f3, f8, f9, Ed.cells, Pl.ed, De.ed]
    refine ⟨by omega, vat bd hbd ?_⟩
    try simp only [go_sem, ↓reduceIte, nQ1, nQ2, nQ3, nQ4, nQ5, nQ6, reduceCtorEq, iQ1, iQ2, iQ3, iQ4, iQ5, iQ6, f0, f1, f2, f3, f8, f9]
    refine vloadn q.ed.cells rfl hRq ?_
    try simp only [go_sem, ↓reduceIte, nQ1, nQ2, nQ3, nQ4, nQ5, nQ6, reduceCtorEq, iQ1, iQ2, iQ3, iQ4, iQ5, iQ6, f0, f1, f2, f3, f8, f9, Ed.cells, Pl.ed, De.ed]
    refine ⟨hbOrder, vcall (dOrder p.ed q.ed R1) ?_⟩
    rintro R2 v hle2 rfl
    try simp only [go_sem, ↓reduceIte, nQ1, nQ2, nQ3, nQ4, nQ5, nQ6, reduceCtorEq, iQ1, iQ2, iQ3, iQ4, iQ5, iQ6, f0, f1, f2, f3, f8, f9]
    have hpx : p.1 = x := by rw [hp1]; simp [hxe]
    have hqy : q.1 = y := by rw [hq1]; simp [hye]
    refine ⟨_, R2, cmpE p.ed q.ed, rfl, hle2, f0, f1, f2, f3, f8, f9, rfl, ?_⟩
    rcases cmpE_cases p q with ⟨h1, h2⟩ | ⟨h1, h2, h3⟩ | ⟨h1, h2, h3⟩
    · exact .inl ⟨h1, x, xs2, hxe, .inr ⟨y, ys2, hye, by rw [← hpx, ← hqy]; exact h2⟩⟩
    · exact .inr (.inl ⟨h1, y, ys2, hye, .inr ⟨x, xs2, hxe, by rw [← hpx, ← hqy]; exact h2, by rw [← hpx, ← hqy]; exact h3⟩⟩)
    · exact .inr (.inr ⟨h1, x, xs2, y, ys2, hxe, hye, by rw [← hpx, ← hqy]; exact h2, by rw [← hpx, ← hqy]; exact h3⟩)
  rintro s' ⟨env, R2, k, rfl, hle2, f0, f1, f2, f3, f8, f9, f10, hk⟩
  obtain ⟨n, rfl⟩ : ∃ n', n = n' + 1 := ⟨n - 1, by omega⟩
  have hca : xs.length ≤ c := by
    obtain ⟨_, _, e, h, _⟩ := ha1.form
    simp only [Value.slice.injEq] at e
    omega
  have hcb : ys.length ≤ d := by
    obtain ⟨_, _, e, h, _⟩ := hb1.form
    simp only [Value.slice.injEq] at e
    omega
  have hpo2 : ∀ p ∈ ps, PlOK R2 p := fun p hp => (hpo p hp).mono hle2
  have hqo2 : ∀ p ∈ qs, PlOK R2 p := fun p hp => (hqo p hp).mono hle2
  have hsnoc : ∀ (l : List Pl) (p : Pl) (R' : RO), (∀ q ∈ l, PlOK R' q) → PlOK R' p → ∀ q ∈ l ++ [p], PlOK R' q := fun l p R' hl hp q hq => by
    rcases List.mem_append.1 hq with hq | hq
    · exact hl q hq
    · simp only [List.mem_cons, List.not_mem_nil, or_false] at hq; subst hq; exact hp
  rcases hk with ⟨hk, x, xs2, rfl, hy⟩ | ⟨hk, y, ys2, rfl, hx⟩ | ⟨hk, x, xs2, y, ys2, rfl, rfl, hl1, hl2⟩
  · rw [mgo_lt hy] at hgA hgF hgG
    obtain ⟨_, _, ea, _, hfa⟩ := PlOK.of ha1
    simp only [Value.slice.injEq] at ea
    obtain ⟨rfl, _, rfl⟩ := ea
    obtain ⟨ad, p, had, hp1, hRp, hpok⟩ := hfa 0 (by simp)
    rw [Nat.zero_mul] at hRp
    simp only [List.getElem_cons_zero] at hp1
    simp only [List.length_cons] at f0 ha1 hca hl1 hn hfa ⊢
    try simp only [go_sem, ↓reduceIte, nQ1, nQ2, nQ3, nQ4, nQ5, nQ6, reduceCtorEq, iQ1, iQ2, iQ3, iQ4, iQ5, iQ6, f0, f1, f2, f3, f8, f9, f10, eq_true hk]
    refine ⟨by omega, vat ad had ?_⟩
    try simp only [go_sem, ↓reduceIte, nQ1, nQ2, nQ3, nQ4, nQ5, nQ6, reduceCtorEq, iQ1, iQ2, iQ3, iQ4, iQ5, iQ6, f0, f1, f2, f3, f8, f9]
    refine vloadn p.ed.cells rfl (fun j u hj => hle2 _ _ (hRp j u hj)) ?_
    try simp only [go_sem, ↓reduceIte, nQ1, nQ2, nQ3, nQ4, nQ5, nQ6, reduceCtorEq, iQ1, iQ2, iQ3, iQ4, iQ5, iQ6, f0, f1, f2, f3, f8, f9, Ed.cells, Pl.ed, De.ed]
    refine ⟨1, xs2.length + 1, rfl, rfl, by omega, by omega, ?_⟩
    try simp only [go_sem, ↓reduceIte, nQ1, nQ2, nQ3, nQ4, nQ5, nQ6, reduceCtorEq, iQ1, iQ2, iQ3, iQ4, iQ5, iQ6, f0, f1, f2, f3, f8, f9]
    refine vgrow (rowP ps) (fun h0 => by first | rfl | (rw [gb_ne h0]; rfl)) (fun h0 => by rw [h0, gb_nil]; rfl) (by rw [rowP_len]) (by omega) (by omega) (by omega) ?_
    try simp only [go_sem, ↓reduceIte, nQ1, nQ2, nQ3, nQ4, nQ5, nQ6, reduceCtorEq, iQ1, iQ2, iQ3, iQ4, iQ5, iQ6, f0, f1, f2, f3, f8, f9]
    have hta := (EdsV.tail ha1).mono hle2
    refine ⟨((if c = 1 then a else a.map (·.add (1 * 13)), c - 1, xs2), (b, d, ys), ps ++ [p], qs, ok), [3, 1], ?_⟩
    try simp only [go_sem, ↓reduceIte, nQ1, nQ2, nQ3, nQ4, nQ5, nQ6, reduceCtorEq]
    exact ⟨by omega, ⟨rfl, fun _ => by rw [rowP_snoc]; rfl, fun h => gb_ne h⟩, by decide, hta, hb1.mono hle2, hsnoc ps p R2 hpo2 (hpok.mono hle2), hqo2, by omega, by omega, n, by omega, by rw [← hgA, List.map_append, List.map_cons, hp1]; simp, hgF, hgG⟩
  · rw [mgo_gt hx] at hgA hgF hgG
    obtain ⟨_, _, eb, _, hfb⟩ := PlOK.of hb1
    simp only [Value.slice.injEq] at eb
    obtain ⟨rfl, _, rfl⟩ := eb
    obtain ⟨bd, q, hbd, hq1, hRq, hqok⟩ := hfb 0 (by simp)
    rw [Nat.zero_mul] at hRq
    simp only [List.getElem_cons_zero] at hq1
    simp only [List.length_cons] at f1 hb1 hcb hl1 hl2 hn hfb ⊢
    have htb := (EdsV.tail hb1).mono hle2
    try simp only [go_sem, ↓reduceIte, nQ1, nQ2, nQ3, nQ4, nQ5, nQ6, reduceCtorEq, iQ1, iQ2, iQ3, iQ4, iQ5, iQ6, f0, f1, f2, f3, f8, f9, f10, eq_false (show ¬ k < 0 by omega), eq_true hk]
    refine ⟨by omega, vat bd hbd ?_⟩
    try simp only [go_sem, ↓reduceIte, nQ1, nQ2, nQ3, nQ4, nQ5, nQ6, reduceCtorEq, iQ1, iQ2, iQ3, iQ4, iQ5, iQ6, f0, f1, f2, f3, f8, f9]
    refine vloadn q.ed.cells rfl (fun j u hj => hle2 _ _ (hRq j u hj)) ?_
    try simp only [go_sem, ↓reduceIte, nQ1, nQ2, nQ3, nQ4, nQ5, nQ6, reduceCtorEq, iQ1, iQ2, iQ3, iQ4, iQ5, iQ6, f0, f1, f2, f3, f8, f9, Ed.cells, Pl.ed, De.ed]
    refine ⟨by omega, vat bd hbd ?_⟩
    try simp only [go_sem, ↓reduceIte, nQ1, nQ2, nQ3, nQ4, nQ5, nQ6, reduceCtorEq, iQ1, iQ2, iQ3, iQ4, iQ5, iQ6, f0, f1, f2, f3, f8, f9]
    refine ⟨1, ys2.length + 1, rfl, rfl, by omega, by omega, ?_⟩
    try simp only [go_sem, ↓reduceIte, nQ1, nQ2, nQ3, nQ4, nQ5, nQ6, reduceCtorEq, iQ1, iQ2, iQ3, iQ4, iQ5, iQ6, f0, f1, f2, f3, f8, f9]
    repeat' (first
      | refine And.intro ?_ ?_
      | (refine vloadn q.ed.cells rfl (fun j u hj => hle2 _ _ (hRq j u hj)) ?_; try simp only [go_sem, ↓reduceIte, nQ1, nQ2, nQ3, nQ4, nQ5, nQ6, reduceCtorEq, iQ1, iQ2, iQ3, iQ4, iQ5, iQ6, f0, f1, f2, f3, f8, f9, Ed.cells, Pl.ed, De.ed])
      | (refine vgrow (rowP ps) (fun h0 => by first | rfl | (rw [gb_ne h0]; rfl)) (fun h0 => by rw [h0, gb_nil]; rfl) (by rw [rowP_len]) (by omega) (by omega) (by omega) ?_; try simp only [go_sem, ↓reduceIte, nQ1, nQ2, nQ3, nQ4, nQ5, nQ6, reduceCtorEq, iQ1, iQ2, iQ3, iQ4, iQ5, iQ6, f0, f1, f2, f3, f8, f9])
      | (refine vgrow (rowP qs) (fun h0 => by first | rfl | (rw [gb_ne h0]; rfl)) (fun h0 => by rw [h0, gb_nil]; rfl) (by rw [rowP_len]) (by omega) (by omega) (by omega) ?_; try simp only [go_sem, ↓reduceIte, nQ1, nQ2, nQ3, nQ4, nQ5, nQ6, reduceCtorEq, iQ1, iQ2, iQ3, iQ4, iQ5, iQ6, f0, f1, f2, f3, f8, f9]))
    all_goals first
      | (refine ⟨((a, c, xs), (if d = 1 then b else b.map (·.add (1 * 13)), d - 1, ys2), ps ++ [q], qs ++ [q], ok), [3, 5], ?_⟩
         try simp only [go_sem, ↓reduceIte, nQ1, nQ2, nQ3, nQ4, nQ5, nQ6, reduceCtorEq]
         exact ⟨by omega, ⟨rfl, fun _ => by rw [rowP_snoc]; rfl, fun _ => by rw [rowP_snoc]; rfl⟩, by decide, ha1.mono hle2, htb, hsnoc ps q R2 hpo2 (hqok.mono hle2), hsnoc qs q R2 hqo2 (hqok.mono hle2), by omega, by omega, n, by omega, by rw [← hgA, List.map_append, List.map_cons, hq1]; simp, by rw [← hgF, List.map_append, List.map_cons, hq1]; simp, hgG⟩)
      | (refine ⟨((a, c, xs), (if d = 1 then b else b.map (·.add (1 * 13)), d - 1, ys2), ps ++ [q], qs ++ [q], ok), [4, 5], ?_⟩
         try simp only [go_sem, ↓reduceIte, nQ1, nQ2, nQ3, nQ4, nQ5, nQ6, reduceCtorEq]
         exact ⟨by omega, ⟨rfl, fun _ => by rw [rowP_snoc]; rfl, fun _ => by rw [rowP_snoc]; rfl⟩, by decide, ha1.mono hle2, htb, hsnoc ps q R2 hpo2 (hqok.mono hle2), hsnoc qs q R2 hqo2 (hqok.mono hle2), by omega, by omega, n, by omega, by rw [← hgA, List.map_append, List.map_cons, hq1]; simp, by rw [← hgF, List.map_append, List.map_cons, hq1]; simp, hgG⟩)
  · rw [mgo_eq hl1 hl2] at hgA hgF hgG
    have hkey := lessD_total hl1 hl2
    subst hk
    obtain ⟨_, _, ea, _, hfa⟩ := PlOK.of ha1
    simp only [Value.slice.injEq] at ea
    obtain ⟨rfl, _, rfl⟩ := ea
    obtain ⟨_, _, eb, _, hfb⟩ := PlOK.of hb1
    simp only [Value.slice.injEq] at eb
    obtain ⟨rfl, _, rfl⟩ := eb
    obtain ⟨ad, p, had, hp1, hRp, hpok⟩ := hfa 0 (by simp)
    obtain ⟨bd, q, hbd, hq1, hRq, hqok⟩ := hfb 0 (by simp)
    rw [Nat.zero_mul] at hRp hRq
    simp only [List.getElem_cons_zero] at hp1 hq1
    simp only [List.length_cons] at f0 f1 ha1 hb1 hca hcb hn hfa hfb ⊢
    have hl1' : ps.length + (xs2.length + 1) + (ys2.length + 1) ≤ 8192 := by assumption
    have hl2' : qs.length + (ys2.length + 1) ≤ 4096 := by assumption
    try simp only [go_sem, ↓reduceIte, nQ1, nQ2, nQ3, nQ4, nQ5, nQ6, reduceCtorEq, iQ1, iQ2, iQ3, iQ4, iQ5, iQ6, f0, f1, f2, f3, f8, f9, f10, eq_false (show ¬ (0 : Int) < 0 by omega)]
    refine ⟨by omega, vat ad had ?_⟩
    try simp only [go_sem, ↓reduceIte, nQ1, nQ2, nQ3, nQ4, nQ5, nQ6, reduceCtorEq, iQ1, iQ2, iQ3, iQ4, iQ5, iQ6, f0, f1, f2, f3, f8, f9]
    refine vloadn p.ed.cells rfl (fun j u hj => hle2 _ _ (hRp j u hj)) ?_
    try simp only [go_sem, ↓reduceIte, nQ1, nQ2, nQ3, nQ4, nQ5, nQ6, reduceCtorEq, iQ1, iQ2, iQ3, iQ4, iQ5, iQ6, f0, f1, f2, f3, f8, f9, Ed.cells, Pl.ed, De.ed]
    refine ⟨by omega, vat bd hbd ?_⟩
    try simp only [go_sem, ↓reduceIte, nQ1, nQ2, nQ3, nQ4, nQ5, nQ6, reduceCtorEq, iQ1, iQ2, iQ3, iQ4, iQ5, iQ6, f0, f1, f2, f3, f8, f9]
    refine vloadn q.ed.cells rfl (fun j u hj => hle2 _ _ (hRq j u hj)) ?_
    try simp only [go_sem, ↓reduceIte, nQ1, nQ2, nQ3, nQ4, nQ5, nQ6, reduceCtorEq, iQ1, iQ2, iQ3, iQ4, iQ5, iQ6, f0, f1, f2, f3, f8, f9, Ed.cells, Pl.ed, De.ed]
    refine ⟨hbLacks1, vcall (dLacks1 p.ed q.ed R2) ?_⟩
    rintro R3 v hle3 _
    try simp only [go_sem, ↓reduceIte, nQ1, nQ2, nQ3, nQ4, nQ5, nQ6, reduceCtorEq, iQ1, iQ2, iQ3, iQ4, iQ5, iQ6, f0, f1, f2, f3, f8, f9]
    have hta := (EdsV.tail ha1).mono (RO.le_trans hle2 hle3)
    have htb := (EdsV.tail hb1).mono (RO.le_trans hle2 hle3)
    refine ⟨by omega, vat ad had ?_⟩
    try simp only [go_sem, ↓reduceIte, nQ1, nQ2, nQ3, nQ4, nQ5, nQ6, reduceCtorEq, iQ1, iQ2, iQ3, iQ4, iQ5, iQ6, f0, f1, f2, f3, f8, f9]
    refine vloadn p.ed.cells rfl (fun j u hj => hle3 _ _ (hle2 _ _ (hRp j u hj))) ?_
    try simp only [go_sem, ↓reduceIte, nQ1, nQ2, nQ3, nQ4, nQ5, nQ6, reduceCtorEq, iQ1, iQ2, iQ3, iQ4, iQ5, iQ6, f0, f1, f2, f3, f8, f9, Ed.cells, Pl.ed, De.ed]
    refine ⟨1, xs2.length + 1, rfl, rfl, by omega, by omega, ?_⟩
    try simp only [go_sem, ↓reduceIte, nQ1, nQ2, nQ3, nQ4, nQ5, nQ6, reduceCtorEq, iQ1, iQ2, iQ3, iQ4, iQ5, iQ6, f0, f1, f2, f3, f8, f9]
    refine ⟨1, ys2.length + 1, rfl, rfl, by omega, by omega, ?_⟩
    try simp only [go_sem, ↓reduceIte, nQ1, nQ2, nQ3, nQ4, nQ5, nQ6, reduceCtorEq, iQ1, iQ2, iQ3, iQ4, iQ5, iQ6, f0, f1, f2, f3, f8, f9]
    refine vgrow (rowP ps) (fun h0 => by first | rfl | (rw [gb_ne h0]; rfl)) (fun h0 => by rw [h0, gb_nil]; rfl) (by rw [rowP_len]) (by omega) (by omega) (by omega) ?_
    try simp only [go_sem, ↓reduceIte, nQ1, nQ2, nQ3, nQ4, nQ5, nQ6, reduceCtorEq, iQ1, iQ2, iQ3, iQ4, iQ5, iQ6, f0, f1, f2, f3, f8, f9]
    refine ⟨((if c = 1 then a else a.map (·.add (1 * 13)), c - 1, xs2), (if d = 1 then b else b.map (·.add (1 * 13)), d - 1, ys2), ps ++ [p], qs, ok && decide (p.1 = q.1)), [3, 1], ?_⟩
    try simp only [go_sem, ↓reduceIte, nQ1, nQ2, nQ3, nQ4, nQ5, nQ6, reduceCtorEq]
    exact ⟨by omega, ⟨⟨rfl, rfl⟩, fun _ => by rw [rowP_snoc]; rfl, fun h => gb_ne h⟩, by decide, hta, htb, hsnoc ps p R3 (fun p hp => (hpo2 p hp).mono hle3) (hpok.mono (RO.le_trans hle2 hle3)), fun p hp => (hqo2 p hp).mono hle3, by omega, by omega, n, by omega, by rw [← hgA, List.map_append, List.map_cons, hp1]; simp, hgF, by rw [← hgG, hp1, hq1, Bool.and_assoc]⟩
set_option maxHeartbeats 8000000 in
theorem dMergeS (xs ys : List De) (va vb : Value) (R : RO) (ha : EdsV R va xs) (hb : EdsV R vb ys) (hla : xs.length ≤ 4096) (hlb : ys.length ≤ 4096) :
    CallsS Tryz.prog 28 [.val va, .val vb, .val (.func (.func 29) #[] #[]), .fn 30 [.l 0 0]] [.box [.val (.bool true)]] R fun R' bs r =>
      ∃ rest w, bs = .box [.val (.bool (mgo (xs.length + ys.length) xs ys).2.2)] :: rest ∧ r = .val w ∧ MrgV R' w (mgo (xs.length + ys.length) xs ys).1 (mgo (xs.length + ys.length) xs ys).2.1 := by
  obtain ⟨a0, c0, rfl, _⟩ := ha.form
  obtain ⟨b0, d0, rfl, _⟩ := hb.form
  obtain ⟨A, hA⟩ : ∃ A, A = (mgo (xs.length + ys.length) xs ys).1 := ⟨_, rfl⟩
  obtain ⟨F, hF⟩ : ∃ F, F = (mgo (xs.length + ys.length) xs ys).2.1 := ⟨_, rfl⟩
  obtain ⟨G, hG⟩ : ∃ G, G = (mgo (xs.length + ys.length) xs ys).2.2 := ⟨_, rfl⟩
  rw [← hA, ← hF, ← hG]
  refine callsTS mix Tryz.func28 comp28 (by simp [Tryz.ntmps28]) rfl rfl ?_; simp only [go_sem, ↓reduceIte, nQ1, nQ2, nQ3, nQ4, nQ5, nQ6, reduceCtorEq, vc28, rs28]
  refine vcLoopR ((Option Addr × Nat × List De) × (Option Addr × Nat × List De) × List Pl × List Pl × Bool) (fun x => [(0, .val (.slice x.1.1 x.1.2.2.length x.1.2.1)), (1, .val (.slice x.2.1.1 x.2.1.2.2.length x.2.1.2.1)), (2, .val (.func (.func 29) #[] #[])), (3, .fn 30 [.l 0 0]), (8, gs 1 x.2.2.1.length), (9, gs 2 x.2.2.2.1.length)])
    (fun x => [.box [.val (.bool x.2.2.2.2)], gb 31 13 (rowP x.2.2.1), gb 31 13 (rowP x.2.2.2.1)])
    (fun x R => EdsV R (.slice x.1.1 x.1.2.2.length x.1.2.1) x.1.2.2 ∧ EdsV R (.slice x.2.1.1 x.2.1.2.2.length x.2.1.2.1) x.2.1.2.2 ∧ (∀ p ∈ x.2.2.1, PlOK R p) ∧ (∀ p ∈ x.2.2.2.1, PlOK R p) ∧ x.2.2.1.length + x.1.2.2.length + x.2.1.2.2.length ≤ 8192 ∧ x.2.2.2.1.length + x.2.1.2.2.length ≤ 4096 ∧
      ∃ n, x.1.2.2.length + x.2.1.2.2.length ≤ n ∧ x.2.2.1.map (·.1) ++ (mgo n x.1.2.2 x.2.1.2.2).1 = A ∧ x.2.2.2.1.map (·.1) ++ (mgo n x.1.2.2 x.2.1.2.2).2.1 = F ∧ (x.2.2.2.2 && (mgo n x.1.2.2 x.2.1.2.2).2.2) = G) (fun x => x.1.2.2.length + x.2.1.2.2.length) ((a0, c0, xs), (b0, d0, ys), [], [], true) [] ?_ ?_ ?_ ?_
  · (try simp only [go_sem, ↓reduceIte, nQ1, nQ2, nQ3, nQ4, nQ5, nQ6, reduceCtorEq]) <;> (repeat' (first | rfl | trivial | constructor | (intro h; exact absurd rfl h)))
  · rfl
  · exact ⟨ha, hb, by simp, by simp, by simp; omega, by simp; omega, _, Nat.le_refl _, by rw [hA]; rfl, by rw [hF]; rfl, by rw [hG]; simp⟩
  rintro ⟨⟨a, c, xs⟩, ⟨b, d, ys⟩, ps, qs, ok⟩ env R1 hle1 hE ⟨ha1, hb1, hpo, hqo, hl1, hl2, n, hn, hgA, hgF, hgG⟩
  clear ha hb hA hF hG hla hlb
  dsimp only at ha1 hb1 hpo hqo hl1 hl2 hn hgA hgF hgG
  simp only [go_sem] at hE
  obtain ⟨e0, e1, e2, e3, e8, e9⟩ := hE
  rw [tCode_seq]
  by_cases hend : xs.length = 0 ∧ ys.length = 0
  · obtain ⟨h1, h2⟩ := hend
    obtain rfl : xs = [] := List.eq_nil_of_length_eq_zero h1
    obtain rfl : ys = [] := List.eq_nil_of_length_eq_zero h2
    have hm : mgo n [] [] = ([], [], true) := by cases n <;> rfl
    rw [hm] at hgA hgF hgG
    simp only [List.append_nil, Bool.and_true] at hgA hgF hgG
    subst hgA hgF hgG
    have hgP : ps.length ≠ 0 → gb 31 13 (rowP ps) = .row 31 13 (rowP ps) := fun h1 => gb_ne (fun e => h1 (by have := rowP_len ps; rw [e] at this; simp at this; omega))
    have hgQ : qs.length ≠ 0 → gb 31 13 (rowP qs) = .row 31 13 (rowP qs) := fun h1 => gb_ne (fun e => h1 (by have := rowP_len qs; rw [e] at this; simp at this; omega))
    have hE0 : ∀ (R' : RO) (l : List Pl), l.length = 0 → EdsV R' (.slice none 0 0) (l.map (·.1)) := fun R' l h => by rw [List.eq_nil_of_length_eq_zero h]; exact EdsV.nil R'
    by_cases h1 : ps.length = 0
    · rw [h1] at e8
      by_cases h2 : qs.length = 0
      · rw [h2] at e9
        try simp only [go_sem, ↓reduceIte, nQ1, nQ2, nQ3, nQ4, nQ5, nQ6, reduceCtorEq, iQ1, iQ2, iQ3, iQ4, iQ5, iQ6, e0, e1, e2, e3, e8, e9]
        exact ⟨_, _, ⟨rfl, rfl⟩, rfl, _, _, rfl, hE0 _ _ h1, hE0 _ _ h2⟩
      · rw [gs_pos h2] at e9
        rw [hgQ h2]
        try simp only [go_sem, ↓reduceIte, nQ1, nQ2, nQ3, nQ4, nQ5, nQ6, reduceCtorEq, iQ1, iQ2, iQ3, iQ4, iQ5, iQ6, e0, e1, e2, e3, e8, e9]
        intro b1 cap1 R2 hle2 hrow hcap hfr
        try simp only [go_sem, ↓reduceIte, nQ1, nQ2, nQ3, nQ4, nQ5, nQ6, reduceCtorEq, iQ1, iQ2, iQ3, iQ4, iQ5, iQ6, e0, e1, e2, e3, e8, e9]
        exact ⟨_, _, ⟨rfl, rfl⟩, rfl, _, _, rfl, hE0 _ _ h1, EdsV.row hrow hcap (fun p hp => (hqo p hp).mono hle2) (by omega)⟩
    · rw [gs_pos h1] at e8
      rw [hgP h1]
      by_cases h2 : qs.length = 0
      · rw [h2] at e9
        try simp only [go_sem, ↓reduceIte, nQ1, nQ2, nQ3, nQ4, nQ5, nQ6, reduceCtorEq, iQ1, iQ2, iQ3, iQ4, iQ5, iQ6, e0, e1, e2, e3, e8, e9]
        intro b1 cap1 R2 hle2 hrow hcap hfr
        try simp only [go_sem, ↓reduceIte, nQ1, nQ2, nQ3, nQ4, nQ5, nQ6, reduceCtorEq, iQ1, iQ2, iQ3, iQ4, iQ5, iQ6, e0, e1, e2, e3, e8, e9]
        exact ⟨_, _, ⟨rfl, rfl⟩, rfl, _, _, rfl, EdsV.row hrow hcap (fun p hp => (hpo p hp).mono hle2) (by omega), hE0 _ _ h2⟩
      · rw [gs_pos h2] at e9
        rw [hgQ h2]
        try simp only [go_sem, ↓reduceIte, nQ1, nQ2, nQ3, nQ4, nQ5, nQ6, reduceCtorEq, iQ1, iQ2, iQ3, iQ4, iQ5, iQ6, e0, e1, e2, e3, e8, e9]
        intro b1 cap1 R2 hle2 hrow hcap hfr
        try simp only [go_sem, ↓reduceIte, nQ1, nQ2, nQ3, nQ4, nQ5, nQ6, reduceCtorEq, iQ1, iQ2, iQ3, iQ4, iQ5, iQ6, e0, e1, e2, e3, e8, e9]
        intro b2 cap2 R3 hle3 hrow2 hcap2 hfr2
        try simp only [go_sem, ↓reduceIte, nQ1, nQ2, nQ3, nQ4, nQ5, nQ6, reduceCtorEq, iQ1, iQ2, iQ3, iQ4, iQ5, iQ6, e0, e1, e2, e3, e8, e9]
        exact ⟨_, _, ⟨rfl, rfl⟩, rfl, _, _, rfl, (EdsV.row hrow hcap (fun p hp => (hpo p hp).mono hle2) (by omega)).mono hle3, EdsV.row hrow2 hcap2 (fun p hp => (hqo p hp).mono (RO.le_trans hle2 hle3)) (by omega)⟩
  refine cutT (fun s' => ∃ env, s' = ⟨env, [.box [.val (.bool ok)], gb 31 13 (rowP ps), gb 31 13 (rowP qs)], R1⟩ ∧ env 0 = .val (.slice a xs.length c) ∧ env 1 = .val (.slice b ys.length d) ∧ env 2 = .val (.func (.func 29) #[] #[]) ∧ env 3 = .fn 30 [.l 0 0] ∧ env 8 = gs 1 ps.length ∧ env 9 = gs 2 qs.length) ?_ ?_
  · try simp only [go_sem, ↓reduceIte, nQ1, nQ2, nQ3, nQ4, nQ5, nQ6, reduceCtorEq, iQ1, iQ2, iQ3, iQ4, iQ5, iQ6, e0, e1, e2, e3, e8, e9]
    refine ⟨fun h0 => ⟨fun h1 => ⟨_, rfl, e0, e1, e2, e3, e8, e9⟩, fun h1 => absurd ⟨by omega, by omega⟩ hend⟩, fun h0 => ⟨_, rfl, e0, e1, e2, e3, e8, e9⟩⟩
  rintro s' ⟨env, rfl, f0, f1, f2, f3, f8, f9⟩
  clear e0 e1 e2 e3 e8 e9
  rw [tCode_block, tCode_seq]
  refine cutT (fun s' => ∃ env, s' = ⟨env, [.box [.val (.bool ok)], gb 31 13 (rowP ps), gb 31 13 (rowP qs)], R1⟩ ∧ env 0 = .val (.slice a xs.length c) ∧ env 1 = .val (.slice b ys.length d) ∧ env 2 = .val (.func (.func 29) #[] #[]) ∧ env 3 = .fn 30 [.l 0 0] ∧ env 8 = gs 1 ps.length ∧ env 9 = gs 2 qs.length) ?_ ?_
  · try simp only [go_sem, ↓reduceIte, nQ1, nQ2, nQ3, nQ4, nQ5, nQ6, reduceCtorEq, iQ1, iQ2, iQ3, iQ4, iQ5, iQ6, f0, f1, f2, f3, f8, f9]
    exact ⟨_, rfl, f0, f1, f2, f3, f8, f9⟩
  rintro s' ⟨env, rfl, f0, f1, f2, f3, f8, f9⟩
  rw [tCode_seq]
  refine cutT (fun s' => ∃ env R2 k, s' = ⟨env, [.box [.val (.bool ok)], gb 31 13 (rowP ps), gb 31 13 (rowP qs)], R2⟩ ∧ RO.le R1 R2 ∧ env 0 = .val (.slice a xs.length c) ∧ env 1 = .val (.slice b ys.length d) ∧ env 2 = .val (.func (.func 29) #[] #[]) ∧ env 3 = .fn 30 [.l 0 0] ∧ env 8 = gs 1 ps.length ∧ env 9 = gs 2 qs.length ∧ env 10 = .val (.int .i64 k) ∧
    ((k < 0 ∧ ∃ x xs2, xs = x :: xs2 ∧ (ys = [] ∨ ∃ y ys2, ys = y :: ys2 ∧ lessD x y = true)) ∨ (0 < k ∧ ∃ y ys2, ys = y :: ys2 ∧ (xs = [] ∨ ∃ x xs2, xs = x :: xs2 ∧ lessD x y = false ∧ lessD y x = true)) ∨
      (k = 0 ∧ ∃ x xs2 y ys2, xs = x :: xs2 ∧ ys = y :: ys2 ∧ lessD x y = false ∧ lessD y x = false))) ?_ ?_
  · by_cases hx : xs.length = 0
    · try simp only [go_sem, ↓reduceIte, nQ1, nQ2, nQ3, nQ4, nQ5, nQ6, reduceCtorEq, iQ1, iQ2, iQ3, iQ4, iQ5, iQ6, f0, f1, f2, f3, f8, f9, eq_true (show (xs.length : Int) = 0 by omega)]
      obtain ⟨y, ys2, hy⟩ := List.exists_cons_of_length_pos (show 0 < ys.length by omega)
      exact ⟨_, R1, 1, rfl, RO.le_refl _, f0, f1, f2, f3, f8, f9, rfl, .inr (.inl ⟨by omega, y, ys2, hy, .inl (List.eq_nil_of_length_eq_zero hx)⟩)⟩
    obtain ⟨x, xs2, hxe⟩ := List.exists_cons_of_length_pos (show 0 < xs.length by omega)
    by_cases hy : ys.length = 0
    · try simp only [go_sem, ↓reduceIte, nQ1, nQ2, nQ3, nQ4, nQ5, nQ6, reduceCtorEq, iQ1, iQ2, iQ3, iQ4, iQ5, iQ6, f0, f1, f2, f3, f8, f9, eq_false (show ¬ (xs.length : Int) = 0 by omega), eq_true (show (ys.length : Int) = 0 by omega)]
      exact ⟨_, R1, -1, rfl, RO.le_refl _, f0, f1, f2, f3, f8, f9, rfl, .inl ⟨by omega, x, xs2, hxe, .inl (List.eq_nil_of_length_eq_zero hy)⟩⟩
    obtain ⟨y, ys2, hye⟩ := List.exists_cons_of_length_pos (show 0 < ys.length by omega)
    obtain ⟨_, _, ea, _, hfa⟩ := PlOK.of ha1
    simp only [Value.slice.injEq] at ea
    obtain ⟨rfl, _, rfl⟩ := ea
    obtain ⟨_, _, eb, _, hfb⟩ := PlOK.of hb1
    simp only [Value.slice.injEq] at eb
    obtain ⟨rfl, _, rfl⟩ := eb
    obtain ⟨ad, p, had, hp1, hRp, hpok⟩ := hfa 0 (by omega)
    obtain ⟨bd, q, hbd, hq1, hRq, hqok⟩ := hfb 0 (by omega)
    rw [Nat.zero_mul] at hRp hRq
    try simp only [go_sem, ↓reduceIte, nQ1, nQ2, nQ3, nQ4, nQ5, nQ6, reduceCtorEq, iQ1, iQ2, iQ3, iQ4, iQ5, iQ6, f0, f1, f2, f3, f8, f9, eq_false (show ¬ (xs.length : Int) = 0 by omega), eq_false (show ¬ (ys.length : Int) = 0 by omega)]
    refine ⟨by omega, vat ad had ?_⟩
    try simp only [go_sem, ↓reduceIte, nQ1, nQ2, nQ3, nQ4, nQ5, nQ6, reduceCtorEq, iQ1, iQ2, iQ3, iQ4, iQ5, iQ6, f0, f1, f2, f3, f8, f9]
    refine vloadn p.ed.cells rfl hRp ?_
    try simp only [go_sem, ↓reduceIte, nQ1, nQ2, nQ3, nQ4, nQ5, nQ6, reduceCtorEq, iQ1, iQ2, iQ3, iQ4, iQ5, iQ6, f0, f1, f2, f3, f8, f9, Ed.cells, Pl.ed, De.ed]
    refine ⟨by omega, vat bd hbd ?_⟩
    try simp only [go_sem, ↓reduceIte, nQ1, nQ2, nQ3, nQ4, nQ5, nQ6, reduceCtorEq, iQ1, iQ2, iQ3, iQ4, iQ5, iQ6, f0, f1, f2, f3, f8, f9]
    refine vloadn q.ed.cells rfl hRq ?_
    try simp only [go_sem, ↓reduceIte, nQ1, nQ2, nQ3, nQ4, nQ5, nQ6, reduceCtorEq, iQ1, iQ2, iQ3, iQ4, iQ5, iQ6, f0, f1, f2, f3, f8, f9, Ed.cells, Pl.ed, De.ed]
    refine ⟨hbOrder, vcall (dOrder p.ed q.ed R1) ?_⟩
    rintro R2 v hle2 rfl
    try simp only [go_sem, ↓reduceIte, nQ1, nQ2, nQ3, nQ4, nQ5, nQ6, reduceCtorEq, iQ1, iQ2, iQ3, iQ4, iQ5, iQ6, f0, f1, f2, f3, f8, f9]
    have hpx : p.1 = x := by rw [hp1]; simp [hxe]
    have hqy : q.1 = y := by rw [hq1]; simp [hye]
    refine ⟨_, R2, cmpE p.ed q.ed, rfl, hle2, f0, f1, f2, f3, f8, f9, rfl, ?_⟩
    rcases cmpE_cases p q with ⟨h1, h2⟩ | ⟨h1, h2, h3⟩ | ⟨h1, h2, h3⟩
    · exact .inl ⟨h1, x, xs2, hxe, .inr ⟨y, ys2, hye, by rw [← hpx, ← hqy]; exact h2⟩⟩
    · exact .inr (.inl ⟨h1, y, ys2, hye, .inr ⟨x, xs2, hxe, by rw [← hpx, ← hqy]; exact h2, by rw [← hpx, ← hqy]; exact h3⟩⟩)
    · exact .inr (.inr ⟨h1, x, xs2, y, ys2, hxe, hye, by rw [← hpx, ← hqy]; exact h2, by rw [← hpx, ← hqy]; exact h3⟩)
  rintro s' ⟨env, R2, k, rfl, hle2, f0, f1, f2, f3, f8, f9, f10, hk⟩
  obtain ⟨n, rfl⟩ : ∃ n', n = n' + 1 := ⟨n - 1, by omega⟩
  have hca : xs.length ≤ c := by
    obtain ⟨_, _, e, h, _⟩ := ha1.form
    simp only [Value.slice.injEq] at e
    omega
  have hcb : ys.length ≤ d := by
    obtain ⟨_, _, e, h, _⟩ := hb1.form
    simp only [Value.slice.injEq] at e
    omega
  have hpo2 : ∀ p ∈ ps, PlOK R2 p := fun p hp => (hpo p hp).mono hle2
  have hqo2 : ∀ p ∈ qs, PlOK R2 p := fun p hp => (hqo p hp).mono hle2
  have hsnoc : ∀ (l : List Pl) (p : Pl) (R' : RO), (∀ q ∈ l, PlOK R' q) → PlOK R' p → ∀ q ∈ l ++ [p], PlOK R' q := fun l p R' hl hp q hq => by
    rcases List.mem_append.1 hq with hq | hq
    · exact hl q hq
    · simp only [List.mem_cons, List.not_mem_nil, or_false] at hq; subst hq; exact hp
  rcases hk with ⟨hk, x, xs2, rfl, hy⟩ | ⟨hk, y, ys2, rfl, hx⟩ | ⟨hk, x, xs2, y, ys2, rfl, rfl, hl1, hl2⟩
  · rw [mgo_lt hy] at hgA hgF hgG
    obtain ⟨_, _, ea, _, hfa⟩ := PlOK.of ha1
    simp only [Value.slice.injEq] at ea
    obtain ⟨rfl, _, rfl⟩ := ea
    obtain ⟨ad, p, had, hp1, hRp, hpok⟩ := hfa 0 (by simp)
    rw [Nat.zero_mul] at hRp
    simp only [List.getElem_cons_zero] at hp1
    simp only [List.length_cons] at f0 ha1 hca hl1 hn hfa ⊢
    try simp only [go_sem, ↓reduceIte, nQ1, nQ2, nQ3, nQ4, nQ5, nQ6, reduceCtorEq, iQ1, iQ2, iQ3, iQ4, iQ5, iQ6, f0, f1, f2, f3, f8, f9, f10, eq_true hk]
    refine ⟨by omega, vat ad had ?_⟩
    try simp only [go_sem, ↓reduceIte, nQ1, nQ2, nQ3, nQ4, nQ5, nQ6, reduceCtorEq, iQ1, iQ2, iQ3, iQ4, iQ5, iQ6, f0, f1, f2, f3, f8, f9]
    refine vloadn p.ed.cells rfl (fun j u hj => hle2 _ _ (hRp j u hj)) ?_
    try simp only [go_sem, ↓reduceIte, nQ1, nQ2, nQ3, nQ4, nQ5, nQ6, reduceCtorEq, iQ1, iQ2, iQ3, iQ4, iQ5, iQ6, f0, f1, f2, f3, f8, f9, Ed.cells, Pl.ed, De.ed]
    refine ⟨1, xs2.length + 1, rfl, rfl, by omega, by omega, ?_⟩
    try simp only [go_sem, ↓reduceIte, nQ1, nQ2, nQ3, nQ4, nQ5, nQ6, reduceCtorEq, iQ1, iQ2, iQ3, iQ4, iQ5, iQ6, f0, f1, f2, f3, f8, f9]
    refine vgrow (rowP ps) (fun h0 => by first | rfl | (rw [gb_ne h0]; rfl)) (fun h0 => by rw [h0, gb_nil]; rfl) (by rw [rowP_len]) (by omega) (by omega) (by omega) ?_
    try simp only [go_sem, ↓reduceIte, nQ1, nQ2, nQ3, nQ4, nQ5, nQ6, reduceCtorEq, iQ1, iQ2, iQ3, iQ4, iQ5, iQ6, f0, f1, f2, f3, f8, f9]
    have hta := (EdsV.tail ha1).mono hle2
    refine ⟨((if c = 1 then a else a.map (·.add (1 * 13)), c - 1, xs2), (b, d, ys), ps ++ [p], qs, ok), [0, 4, 2], ?_⟩
    try simp only [go_sem, ↓reduceIte, nQ1, nQ2, nQ3, nQ4, nQ5, nQ6, reduceCtorEq]
    exact ⟨by omega, ⟨⟨rfl, rfl⟩, fun _ => by rw [rowP_snoc]; rfl, fun h => gb_ne h⟩, ⟨by decide, rfl⟩, hta, hb1.mono hle2, hsnoc ps p R2 hpo2 (hpok.mono hle2), hqo2, by omega, by omega, n, by omega, by rw [← hgA, List.map_append, List.map_cons, hp1]; simp, hgF, hgG⟩
  · rw [mgo_gt hx] at hgA hgF hgG
    obtain ⟨_, _, eb, _, hfb⟩ := PlOK.of hb1
    simp only [Value.slice.injEq] at eb
    obtain ⟨rfl, _, rfl⟩ := eb
    obtain ⟨bd, q, hbd, hq1, hRq, hqok⟩ := hfb 0 (by simp)
    rw [Nat.zero_mul] at hRq
    simp only [List.getElem_cons_zero] at hq1
    simp only [List.length_cons] at f1 hb1 hcb hl1 hl2 hn hfb ⊢
    have htb := (EdsV.tail hb1).mono hle2
    try simp only [go_sem, ↓reduceIte, nQ1, nQ2, nQ3, nQ4, nQ5, nQ6, reduceCtorEq, iQ1, iQ2, iQ3, iQ4, iQ5, iQ6, f0, f1, f2, f3, f8, f9, f10, eq_false (show ¬ k < 0 by omega), eq_true hk]
    refine ⟨by omega, vat bd hbd ?_⟩
    try simp only [go_sem, ↓reduceIte, nQ1, nQ2, nQ3, nQ4, nQ5, nQ6, reduceCtorEq, iQ1, iQ2, iQ3, iQ4, iQ5, iQ6, f0, f1, f2, f3, f8, f9]
    refine vloadn q.ed.cells rfl (fun j u hj => hle2 _ _ (hRq j u hj)) ?_
    try simp only [go_sem, ↓reduceIte, nQ1, nQ2, nQ3, nQ4, nQ5, nQ6, reduceCtorEq, iQ1, iQ2, iQ3, iQ4, iQ5, iQ6, f0, f1, f2, f3, f8, f9, Ed.cells, Pl.ed, De.ed]
    refine ⟨by omega, vat bd hbd ?_⟩
    try simp only [go_sem, ↓reduceIte, nQ1, nQ2, nQ3, nQ4, nQ5, nQ6, reduceCtorEq, iQ1, iQ2, iQ3, iQ4, iQ5, iQ6, f0, f1, f2, f3, f8, f9]
    refine ⟨1, ys2.length + 1, rfl, rfl, by omega, by omega, ?_⟩
    try simp only [go_sem, ↓reduceIte, nQ1, nQ2, nQ3, nQ4, nQ5, nQ6, reduceCtorEq, iQ1, iQ2, iQ3, iQ4, iQ5, iQ6, f0, f1, f2, f3, f8, f9]
    repeat' (first
      | refine And.intro ?_ ?_
      | (refine vloadn q.ed.cells rfl (fun j u hj => hle2 _ _ (hRq j u hj)) ?_; try simp only [go_sem, ↓reduceIte, nQ1, nQ2, nQ3, nQ4, nQ5, nQ6, reduceCtorEq, iQ1, iQ2, iQ3, iQ4, iQ5, iQ6, f0, f1, f2, f3, f8, f9, Ed.cells, Pl.ed, De.ed])
      | (refine vgrow (rowP ps) (fun h0 => by first | rfl | (rw [gb_ne h0]; rfl)) (fun h0 => by rw [h0, gb_nil]; rfl) (by rw [rowP_len]) (by omega) (by omega) (by omega) ?_; try simp only [go_sem, ↓reduceIte, nQ1, nQ2, nQ3, nQ4, nQ5, nQ6, reduceCtorEq, iQ1, iQ2, iQ3, iQ4, iQ5, iQ6, f0, f1, f2, f3, f8, f9])
      | (refine vgrow (rowP qs) (fun h0 => by first | rfl | (rw [gb_ne h0]; rfl)) (fun h0 => by rw [h0, gb_nil]; rfl) (by rw [rowP_len]) (by omega) (by omega) (by omega) ?_; try simp only [go_sem, ↓reduceIte, nQ1, nQ2, nQ3, nQ4, nQ5, nQ6, reduceCtorEq, iQ1, iQ2, iQ3, iQ4, iQ5, iQ6, f0, f1, f2, f3, f8, f9]))
    all_goals first
      | (refine ⟨((a, c, xs), (if d = 1 then b else b.map (·.add (1 * 13)), d - 1, ys2), ps ++ [q], qs ++ [q], ok), [0, 4, 6], ?_⟩
         try simp only [go_sem, ↓reduceIte, nQ1, nQ2, nQ3, nQ4, nQ5, nQ6, reduceCtorEq]
         exact ⟨by omega, ⟨⟨rfl, rfl⟩, fun _ => by rw [rowP_snoc]; rfl, fun _ => by rw [rowP_snoc]; rfl⟩, ⟨by decide, rfl⟩, ha1.mono hle2, htb, hsnoc ps q R2 hpo2 (hqok.mono hle2), hsnoc qs q R2 hqo2 (hqok.mono hle2), by omega, by omega, n, by omega, by rw [← hgA, List.map_append, List.map_cons, hq1]; simp, by rw [← hgF, List.map_append, List.map_cons, hq1]; simp, hgG⟩)
      | (refine ⟨((a, c, xs), (if d = 1 then b else b.map (·.add (1 * 13)), d - 1, ys2), ps ++ [q], qs ++ [q], ok), [0, 5, 6], ?_⟩
         try simp only [go_sem, ↓reduceIte, nQ1, nQ2, nQ3, nQ4, nQ5, nQ6, reduceCtorEq]
         exact ⟨by omega, ⟨⟨rfl, rfl⟩, fun _ => by rw [rowP_snoc]; rfl, fun _ => by rw [rowP_snoc]; rfl⟩, ⟨by decide, rfl⟩, ha1.mono hle2, htb, hsnoc ps q R2 hpo2 (hqok.mono hle2), hsnoc qs q R2 hqo2 (hqok.mono hle2), by omega, by omega, n, by omega, by rw [← hgA, List.map_append, List.map_cons, hq1]; simp, by rw [← hgF, List.map_append, List.map_cons, hq1]; simp, hgG⟩)
  · rw [mgo_eq hl1 hl2] at hgA hgF hgG
    have hkey := lessD_total hl1 hl2
    subst hk
    obtain ⟨_, _, ea, _, hfa⟩ := PlOK.of ha1
    simp only [Value.slice.injEq] at ea
    obtain ⟨rfl, _, rfl⟩ := ea
    obtain ⟨_, _, eb, _, hfb⟩ := PlOK.of hb1
    simp only [Value.slice.injEq] at eb
    obtain ⟨rfl, _, rfl⟩ := eb
    obtain ⟨ad, p, had, hp1, hRp, hpok⟩ := hfa 0 (by simp)
    obtain ⟨bd, q, hbd, hq1, hRq, hqok⟩ := hfb 0 (by simp)
    rw [Nat.zero_mul] at hRp hRq
    simp only [List.getElem_cons_zero] at hp1 hq1
    simp only [List.length_cons] at f0 f1 ha1 hb1 hca hcb hn hfa hfb ⊢
    have hl1' : ps.length + (xs2.length + 1) + (ys2.length + 1) ≤ 8192 := by assumption
    have hl2' : qs.length + (ys2.length + 1) ≤ 4096 := by assumption
    try simp only [go_sem, ↓reduceIte, nQ1, nQ2, nQ3, nQ4, nQ5, nQ6, reduceCtorEq, iQ1, iQ2, iQ3, iQ4, iQ5, iQ6, f0, f1, f2, f3, f8, f9, f10, eq_false (show ¬ (0 : Int) < 0 by omega)]
    refine ⟨by omega, vat ad had ?_⟩
    try simp only [go_sem, ↓reduceIte, nQ1, nQ2, nQ3, nQ4, nQ5, nQ6, reduceCtorEq, iQ1, iQ2, iQ3, iQ4, iQ5, iQ6, f0, f1, f2, f3, f8, f9]
    refine vloadn p.ed.cells rfl (fun j u hj => hle2 _ _ (hRp j u hj)) ?_
    try simp only [go_sem, ↓reduceIte, nQ1, nQ2, nQ3, nQ4, nQ5, nQ6, reduceCtorEq, iQ1, iQ2, iQ3, iQ4, iQ5, iQ6, f0, f1, f2, f3, f8, f9, Ed.cells, Pl.ed, De.ed]
    refine ⟨by omega, vat bd hbd ?_⟩
    try simp only [go_sem, ↓reduceIte, nQ1, nQ2, nQ3, nQ4, nQ5, nQ6, reduceCtorEq, iQ1, iQ2, iQ3, iQ4, iQ5, iQ6, f0, f1, f2, f3, f8, f9]
    refine vloadn q.ed.cells rfl (fun j u hj => hle2 _ _ (hRq j u hj)) ?_
    try simp only [go_sem, ↓reduceIte, nQ1, nQ2, nQ3, nQ4, nQ5, nQ6, reduceCtorEq, iQ1, iQ2, iQ3, iQ4, iQ5, iQ6, f0, f1, f2, f3, f8, f9, Ed.cells, Pl.ed, De.ed]
    refine ⟨hbSync1, vhandT [0] [.val (.agg ((p.1.ed p.2.1 p.2.2.1 p.2.2.2).cells).toArray), .val (.agg ((q.1.ed q.2.1 q.2.2.1 q.2.2.2).cells).toArray), .loc 0 0] [.box [.val (.bool ok)]] (dSync1 p.1 q.1 p.2.1 q.2.1 p.2.2.1 p.2.2.2 q.2.2.1 q.2.2.2 ok R2 (hpok.mono hle2) (hqok.mono hle2) (by rw [hp1, hq1]; exact hkey)) rfl rfl rfl ?_ (by simp) rfl rfl ?_⟩
    · try simp only [go_sem, ↓reduceIte, nQ1, nQ2, nQ3, nQ4, nQ5, nQ6, reduceCtorEq]
    rintro R3 bs r hle3 ⟨b1, b2, rfl⟩ _
    try simp only [go_sem, ↓reduceIte, nQ1, nQ2, nQ3, nQ4, nQ5, nQ6, reduceCtorEq, iQ1, iQ2, iQ3, iQ4, iQ5, iQ6, f0, f1, f2, f3, f8, f9, setG, rn]
    have hta := (EdsV.tail ha1).mono (RO.le_trans hle2 hle3)
    have htb := (EdsV.tail hb1).mono (RO.le_trans hle2 hle3)
    refine ⟨by omega, vat ad had ?_⟩
    try simp only [go_sem, ↓reduceIte, nQ1, nQ2, nQ3, nQ4, nQ5, nQ6, reduceCtorEq, iQ1, iQ2, iQ3, iQ4, iQ5, iQ6, f0, f1, f2, f3, f8, f9]
    refine vloadn p.ed.cells rfl (fun j u hj => hle3 _ _ (hle2 _ _ (hRp j u hj))) ?_
    try simp only [go_sem, ↓reduceIte, nQ1, nQ2, nQ3, nQ4, nQ5, nQ6, reduceCtorEq, iQ1, iQ2, iQ3, iQ4, iQ5, iQ6, f0, f1, f2, f3, f8, f9, Ed.cells, Pl.ed, De.ed]
    refine ⟨1, xs2.length + 1, rfl, rfl, by omega, by omega, ?_⟩
    try simp only [go_sem, ↓reduceIte, nQ1, nQ2, nQ3, nQ4, nQ5, nQ6, reduceCtorEq, iQ1, iQ2, iQ3, iQ4, iQ5, iQ6, f0, f1, f2, f3, f8, f9]
    refine ⟨1, ys2.length + 1, rfl, rfl, by omega, by omega, ?_⟩
    try simp only [go_sem, ↓reduceIte, nQ1, nQ2, nQ3, nQ4, nQ5, nQ6, reduceCtorEq, iQ1, iQ2, iQ3, iQ4, iQ5, iQ6, f0, f1, f2, f3, f8, f9]
    refine vgrow (rowP ps) (fun h0 => by first | rfl | (rw [gb_ne h0]; rfl)) (fun h0 => by rw [h0, gb_nil]; rfl) (by rw [rowP_len]) (by omega) (by omega) (by omega) ?_
    try simp only [go_sem, ↓reduceIte, nQ1, nQ2, nQ3, nQ4, nQ5, nQ6, reduceCtorEq, iQ1, iQ2, iQ3, iQ4, iQ5, iQ6, f0, f1, f2, f3, f8, f9]
    refine ⟨((if c = 1 then a else a.map (·.add (1 * 13)), c - 1, xs2), (if d = 1 then b else b.map (·.add (1 * 13)), d - 1, ys2), ps ++ [p], qs, ok && decide (p.1 = q.1)), [0, 6, 2], ?_⟩
    try simp only [go_sem, ↓reduceIte, nQ1, nQ2, nQ3, nQ4, nQ5, nQ6, reduceCtorEq]
    exact ⟨by omega, ⟨⟨rfl, rfl, rfl⟩, rfl, fun _ => by rw [rowP_snoc]; rfl, fun h => by rw [gb_ne h]⟩, ⟨by decide, rfl⟩, hta, htb, hsnoc ps p R3 (fun p hp => (hpo2 p hp).mono hle3) (hpok.mono (RO.le_trans hle2 hle3)), fun p hp => (hqo2 p hp).mono hle3, by omega, by omega, n, by omega, by rw [← hgA, List.map_append, List.map_cons, hp1]; simp, hgF, by rw [← hgG, hp1, hq1, Bool.and_assoc]⟩
end Go.Proofs.YtcjdbfnnbejmeaaGreat
namespace Go.Proofs.YtcjdbfnnbejmeaaGreat
set_option linter.unusedSimpArgs false
set_option linter.unusedVariables false
open Go.Proofs.YtcjdbfnnbejmeaaGreat.Vc
/-! ### Package device: Sync, Lacks -/
theorem nextD_le (n : Int) (l : List De) : n ≤ nextD n l := by
 unfold nextD
 induction l generalizing n with
 | nil => exact Int.le_refl _
 | cons e l ih =>
  rw [List.foldl_cons]
  exact Int.le_trans (by omega) (ih _)
theorem nextD_snoc (n : Int) (l : List De) (e : De) : nextD n (l ++ [e]) = max (nextD n l) (e.seq / 64 + 1) := by unfold nextD; rw [List.foldl_append]; rfl
theorem validV_all {d : Dv} (h : validV d = true) : (∀ e ∈ d.edits, validD e = true ∧ e.seq / 64 < d.next) ∧ SortedD d.edits := by
 unfold validV at h
 simp only [Bool.and_eq_true, decide_eq_true_eq, List.all_eq_true] at h
 exact ⟨fun e he => (okEd_iff _ _).1 (h.1.2 e he), h.2⟩
def SyncQ (d o : Dv) (dv ov : Value) (R : RO) (s : St) : Prop :=
  ∃ env, env 2 = .loc 0 0 ∧ env 3 = .loc 1 0 ∧ env 4 = .loc 2 0 ∧
    ((s = ⟨env, [.box [.val (.int .i64 d.id), .val (.int .i64 d.epoch), .val (.int .i64 d.next), .val dv], .box [.val (.int .i64 o.id), .val (.int .i64 o.epoch), .val (.int .i64 o.next), .val ov], .box [.val (.int .i64 0), .val (.int .i64 0), .val (.int .i64 0), .val (.slice none 0 0)],
      .box [.val (.int .i64 d.id), .val (.int .i64 d.epoch), .val (.int .i64 d.next), .val dv], .box [.val (.int .i64 o.id), .val (.int .i64 o.epoch), .val (.int .i64 o.next), .val ov]], R⟩ ∧ env 6 = .loc 3 0 ∧ env 7 = .loc 4 0) ∨
     (s = ⟨env, [.box [.val (.int .i64 d.id), .val (.int .i64 d.epoch), .val (.int .i64 d.next), .val dv], .box [.val (.int .i64 o.id), .val (.int .i64 o.epoch), .val (.int .i64 o.next), .val ov], .box [.val (.int .i64 0), .val (.int .i64 0), .val (.int .i64 0), .val (.slice none 0 0)],
      .box [.val (.int .i64 o.id), .val (.int .i64 o.epoch), .val (.int .i64 o.next), .val ov], .box [.val (.int .i64 d.id), .val (.int .i64 d.epoch), .val (.int .i64 d.next), .val dv]], R⟩ ∧ env 6 = .loc 4 0 ∧ env 7 = .loc 3 0))
set_option maxHeartbeats 4000000 in
theorem dSync (d o : Dv) (dv ov : Value) (R : RO) (h : EdsV R dv d.edits) (k : EdsV R ov o.edits) : CallsR Tryz.prog 10 [.agg (dvCells d dv).toArray, .agg (dvCells o ov).toArray] R fun R' r => DvR R' r (dvSync d o) := by
 have hV := fun R' (hle : RO.le R R') => dValid d dv R' (h.mono hle)
 have hVo := fun R' (hle : RO.le R R') => dValid o ov R' (k.mono hle)
 have h0 := h
 have k0 := k
 obtain ⟨a, cap, rfl, hc, hf⟩ := h.form
 obtain ⟨b, cap', rfl, hc', hf'⟩ := k.form
 simp only [dvCells] at hV hVo ⊢
 refine callsT mix Tryz.func10 comp10 (by simp [Tryz.ntmps10]) ?_; simp only [vc10, rs10]
 (refine cutR ?_ ?_ ?_; rotate_left; (try simp only [go_sem, ↓reduceIte, nQ1, nQ2, nQ3, nQ4, nQ5, nQ6, reduceCtorEq, true_and]; rfl))
 rw [tCode_seq]
 refine cutT (SyncQ d o (.slice a d.edits.length cap) (.slice b o.edits.length cap') R) ?_ ?_
 ·try simp only [go_sem, ↓reduceIte, nQ1, nQ2, nQ3, nQ4, nQ5, nQ6, reduceCtorEq]
  repeat' (with_reducible first | refine And.intro ?_ ?_ | intro _)
  all_goals unfold SyncQ
  all_goals first
   | exact ⟨_, rfl, rfl, rfl, .inl ⟨rfl, rfl, rfl⟩⟩
   | exact ⟨_, rfl, rfl, rfl, .inr ⟨rfl, rfl, rfl⟩⟩
 rintro s' ⟨env, e2, e3, e4, hst⟩
 rcases hst with ⟨rfl, e6, e7⟩ | ⟨rfl, e6, e7⟩
 ·try simp only [go_sem, ↓reduceIte, nQ1, nQ2, nQ3, nQ4, nQ5, nQ6, reduceCtorEq, e2, e3, e4, e6, e7]
  refine vcall (hV R (RO.le_refl _)) ?_
  rintro R1 r hle1 rfl
  unfold dvSync
  cases hv : validV d with
  | false =>
   try simp only [go_sem, ↓reduceIte, nQ1, nQ2, nQ3, nQ4, nQ5, nQ6, reduceCtorEq, e2, e3, e4, e6, e7]
   rw [if_neg (by simp)]
   exact rfl
  | true =>
  try simp only [go_sem, ↓reduceIte, nQ1, nQ2, nQ3, nQ4, nQ5, nQ6, reduceCtorEq, e2, e3, e4, e6, e7]
  refine vcall (hVo R1 hle1) ?_
  rintro R2 r hle2 rfl
  cases hvo : validV o with
  | false =>
   try simp only [go_sem, ↓reduceIte, nQ1, nQ2, nQ3, nQ4, nQ5, nQ6, reduceCtorEq, e2, e3, e4, e6, e7]
   exact rfl
  | true =>
  have hle12 := RO.le_trans hle1 hle2
  have hd1 := validV_hdr hv
  have ho1 := validV_hdr hvo
  have hd2 := validV_all hv
  have ho2 := validV_all hvo
  have hM := mgo_spec (d.edits.length + o.edits.length) d.edits o.edits (Nat.le_refl _) hd2.2 ho2.2
  rw [if_pos ⟨rfl, rfl⟩]
  try simp only [go_sem, ↓reduceIte, nQ1, nQ2, nQ3, nQ4, nQ5, nQ6, reduceCtorEq, e2, e3, e4, e6, e7]
  refine vhand [5] [.val (.slice a d.edits.length cap), .val (.slice b o.edits.length cap'), .val (.func (.func 29) #[] #[]), .fn 30 [.l 0 0]] [.box [.val (.bool true)]] (dMergeS d.edits o.edits _ _ R2 (h0.mono hle12) (k0.mono hle12) (by omega) (by omega)) rfl rfl rfl ?_ (by simp) rfl rfl ?_
  ·try simp only [go_sem, ↓reduceIte, nQ1, nQ2, nQ3, nQ4, nQ5, nQ6, reduceCtorEq]
  rintro R3 bs r hle3 ⟨rest, w, rfl, rfl, u, v, rfl, hu, hvf⟩ _
  rw [hM.fresh] at hvf
  rw [hM.agree]
  change EdsV R3 u (unionD d.edits o.edits) at hu
  obtain ⟨ua, ucap, rfl, _⟩ := hu.form
  obtain ⟨va, vcap, rfl, _, hff⟩ := PlOK.of hvf
  simp only [List.map_cons, renB, List.map_nil, ren]
  obtain ⟨rest', hrest⟩ : ∃ r', r' = rest.map (renB ([5] ++ List.range' 6 ((rest.length + 1) - 1))) := ⟨_, rfl⟩
  simp only [List.length_cons, List.length_nil, Nat.zero_add, Nat.reduceAdd]
  try simp only [go_sem, ↓reduceIte, nQ1, nQ2, nQ3, nQ4, nQ5, nQ6, reduceCtorEq, setG, setG_no, rn, e2, e3, e4, e6, e7]
  refine ⟨fun hag => ?_, fun hag => ⟨fun hl => ?_, fun hl => ?_⟩⟩
  ·rw [if_neg (by rw [hag]; simp)]; exact rfl
  ·rw [if_pos hag, if_pos (by omega)]; exact rfl
  rw [if_pos hag, if_neg (by omega)]
  have hfb : ∀ e ∈ freshD d.edits o.edits, 1 ≤ e.seq ∧ e.seq ≤ 1099511627776 := fun e he => validD_seq (ho2.1 e (List.mem_filter.1 he).1).1
  have hfl : (freshD d.edits o.edits).length ≤ 4096 := Nat.le_trans (List.length_filter_le _ _) (by omega)
  have hW := fun (n : Int) R' old w ds ho hw => dWith ⟨d.id, d.epoch, n, []⟩ old w ds R' ho hw
  simp only [dvCells] at hW
  obtain ⟨fs, hfs⟩ : ∃ fs, fs = freshD d.edits o.edits := ⟨_, rfl⟩
  rw [← hfs] at hfb hff hfl ⊢
  have hnb : ∀ i, i ≤ fs.length → 1 ≤ nextD d.next (fs.take i) ∧ nextD d.next (fs.take i) ≤ 1099511627777 := fun i hi => by
   refine ⟨by have := nextD_le d.next (fs.take i); omega, ?_⟩
   have h1 : ∀ l : List De, (∀ e ∈ l, 1 ≤ e.seq ∧ e.seq ≤ 1099511627776) → ∀ n, n ≤ 1099511627777 → nextD n l ≤ 1099511627777 := by
    intro l
    induction l with
    | nil => intro _ n hn; exact hn
    | cons e l ih =>
     intro hl n hn
     have := hl e (by simp)
     exact ih (fun x hx => hl x (by simp [hx])) _ (by show max n (e.seq / 64 + 1) ≤ _; omega)
   exact h1 _ (fun e he => hfb e (List.mem_of_mem_take he)) _ (by omega)
  refine vcLoopR Nat (fun i => [(46, .val (.int .i64 i)), (45, .val (.int .i64 fs.length)), (44, .val (.slice va fs.length vcap)), (6, .loc 0 0), (4, .loc 1 0), (9, .val (.slice ua (unionD d.edits o.edits).length ucap))])
   (fun i => [.box [.val (.int .i64 d.id), .val (.int .i64 d.epoch), .val (.int .i64 (nextD d.next (fs.take i))), .val (.slice a d.edits.length cap)], .box [.val (.int .i64 0), .val (.int .i64 0), .val (.int .i64 0), .val (.slice none 0 0)]])
   (fun i _ => i ≤ fs.length) (fun i => fs.length - i) 0 [3, 2] ?_ ?_ ?_ ?_
  ·(try simp only [go_sem, ↓reduceIte, nQ1, nQ2, nQ3, nQ4, nQ5, nQ6, reduceCtorEq]) <;> (repeat' (first | rfl | trivial | constructor | (intro h; exact absurd rfl h)))
  ·try simp only [go_sem, ↓reduceIte, nQ1, nQ2, nQ3, nQ4, nQ5, nQ6, reduceCtorEq]
   rfl
  ·exact Nat.zero_le _
  rintro i env R4 hle4 hE hi
  (simp only [go_sem] at hE; obtain ⟨g46, g45, g44, g6, g4, g9⟩ := hE; simp only [go_sem, ↓reduceIte, nQ1, nQ2, nQ3, nQ4, nQ5, nQ6, reduceCtorEq, g46, g45, g44, g6, g4, g9]; dsimp only at *)
  refine ⟨fun hlt => ⟨hlt, ?_⟩, fun hge => ?_⟩
  ·have hlt' : i < fs.length := by omega
   obtain ⟨ad, p, had, hp1, hR, hpok⟩ := hff i hlt'
   have hpb := hfb _ (List.getElem_mem hlt')
   rw [← hp1] at hpb
   have htd : p.1.seq.tdiv 64 = p.1.seq / 64 := tdiv_nonneg' (by omega) (by omega)
   have hsn := nextD_snoc d.next (fs.take i) fs[i]
   rw [← List.take_succ_eq_append_getElem hlt', ← hp1] at hsn
   refine vat ad had ?_
   try simp only [go_sem, ↓reduceIte, nQ1, nQ2, nQ3, nQ4, nQ5, nQ6, reduceCtorEq]
   refine vloadn p.ed.cells rfl (fun j u hj => hle4 _ _ (hR j u hj)) ?_
   simp only [go_sem, ↓reduceIte, nQ1, nQ2, nQ3, nQ4, nQ5, nQ6, reduceCtorEq, Ed.cells, Pl.ed, De.ed, g46, g45, g44, g6, g4, g9]
   refine ⟨by omega, _, W.in64 (by rw [htd]; omega), _, W.in64 (by rw [htd]; omega), ?_⟩
   refine ⟨_, W.in64 (by omega), i + 1, [], ?_⟩
   rw [hsn, htd]
   try simp only [go_sem, ↓reduceIte, nQ1, nQ2, nQ3, nQ4, nQ5, nQ6, reduceCtorEq]
   exact ⟨by omega, rfl, by decide, by omega⟩
  ·obtain rfl : i = fs.length := by omega
   rw [List.take_length] at *
   refine vcall (hW _ R4 _ _ _ rfl (hu.mono hle4)) ?_
   rintro R5 w hle5 ⟨v', rfl, hv'⟩
   have hv1 := hv'.one
   obtain ⟨va2, vc2, rfl, _⟩ := hv'.form
   try simp only [go_sem, ↓reduceIte, nQ1, nQ2, nQ3, nQ4, nQ5, nQ6, reduceCtorEq, g6, g4]
   exact ⟨_, rfl, hv'⟩
 ·try simp only [go_sem, ↓reduceIte, nQ1, nQ2, nQ3, nQ4, nQ5, nQ6, reduceCtorEq, e2, e3, e4, e6, e7]
  refine vcall (hV R (RO.le_refl _)) ?_
  rintro R1 r hle1 rfl
  unfold dvSync
  cases hv : validV d with
  | false =>
   try simp only [go_sem, ↓reduceIte, nQ1, nQ2, nQ3, nQ4, nQ5, nQ6, reduceCtorEq, e2, e3, e4, e6, e7]
   rw [if_neg (by simp)]
   exact rfl
  | true =>
  try simp only [go_sem, ↓reduceIte, nQ1, nQ2, nQ3, nQ4, nQ5, nQ6, reduceCtorEq, e2, e3, e4, e6, e7]
  refine vcall (hVo R1 hle1) ?_
  rintro R2 r hle2 rfl
  cases hvo : validV o with
  | false =>
   try simp only [go_sem, ↓reduceIte, nQ1, nQ2, nQ3, nQ4, nQ5, nQ6, reduceCtorEq, e2, e3, e4, e6, e7]
   exact rfl
  | true =>
  have hle12 := RO.le_trans hle1 hle2
  have hd1 := validV_hdr hv
  have ho1 := validV_hdr hvo
  have hd2 := validV_all hv
  have ho2 := validV_all hvo
  have hM := mgo_spec (d.edits.length + o.edits.length) d.edits o.edits (Nat.le_refl _) hd2.2 ho2.2
  rw [if_pos ⟨rfl, rfl⟩]
  try simp only [go_sem, ↓reduceIte, nQ1, nQ2, nQ3, nQ4, nQ5, nQ6, reduceCtorEq, e2, e3, e4, e6, e7]
  refine vhand [5] [.val (.slice a d.edits.length cap), .val (.slice b o.edits.length cap'), .val (.func (.func 29) #[] #[]), .fn 30 [.l 0 0]] [.box [.val (.bool true)]] (dMergeS d.edits o.edits _ _ R2 (h0.mono hle12) (k0.mono hle12) (by omega) (by omega)) rfl rfl rfl ?_ (by simp) rfl rfl ?_
  ·try simp only [go_sem, ↓reduceIte, nQ1, nQ2, nQ3, nQ4, nQ5, nQ6, reduceCtorEq]
  rintro R3 bs r hle3 ⟨rest, w, rfl, rfl, u, v, rfl, hu, hvf⟩ _
  rw [hM.fresh] at hvf
  rw [hM.agree]
  change EdsV R3 u (unionD d.edits o.edits) at hu
  obtain ⟨ua, ucap, rfl, _⟩ := hu.form
  obtain ⟨va, vcap, rfl, _, hff⟩ := PlOK.of hvf
  simp only [List.map_cons, renB, List.map_nil, ren]
  obtain ⟨rest', hrest⟩ : ∃ r', r' = rest.map (renB ([5] ++ List.range' 6 ((rest.length + 1) - 1))) := ⟨_, rfl⟩
  simp only [List.length_cons, List.length_nil, Nat.zero_add, Nat.reduceAdd]
  try simp only [go_sem, ↓reduceIte, nQ1, nQ2, nQ3, nQ4, nQ5, nQ6, reduceCtorEq, setG, setG_no, rn, e2, e3, e4, e6, e7]
  refine ⟨fun hag => ?_, fun hag => ⟨fun hl => ?_, fun hl => ?_⟩⟩
  ·rw [if_neg (by rw [hag]; simp)]; exact rfl
  ·rw [if_pos hag, if_pos (by omega)]; exact rfl
  rw [if_pos hag, if_neg (by omega)]
  have hfb : ∀ e ∈ freshD d.edits o.edits, 1 ≤ e.seq ∧ e.seq ≤ 1099511627776 := fun e he => validD_seq (ho2.1 e (List.mem_filter.1 he).1).1
  have hfl : (freshD d.edits o.edits).length ≤ 4096 := Nat.le_trans (List.length_filter_le _ _) (by omega)
  have hW := fun (n : Int) R' old w ds ho hw => dWith ⟨d.id, d.epoch, n, []⟩ old w ds R' ho hw
  simp only [dvCells] at hW
  obtain ⟨fs, hfs⟩ : ∃ fs, fs = freshD d.edits o.edits := ⟨_, rfl⟩
  rw [← hfs] at hfb hff hfl ⊢
  have hnb : ∀ i, i ≤ fs.length → 1 ≤ nextD d.next (fs.take i) ∧ nextD d.next (fs.take i) ≤ 1099511627777 := fun i hi => by
   refine ⟨by have := nextD_le d.next (fs.take i); omega, ?_⟩
   have h1 : ∀ l : List De, (∀ e ∈ l, 1 ≤ e.seq ∧ e.seq ≤ 1099511627776) → ∀ n, n ≤ 1099511627777 → nextD n l ≤ 1099511627777 := by
    intro l
    induction l with
    | nil => intro _ n hn; exact hn
    | cons e l ih =>
     intro hl n hn
     have := hl e (by simp)
     exact ih (fun x hx => hl x (by simp [hx])) _ (by show max n (e.seq / 64 + 1) ≤ _; omega)
   exact h1 _ (fun e he => hfb e (List.mem_of_mem_take he)) _ (by omega)
  refine vcLoopR Nat (fun i => [(46, .val (.int .i64 i)), (45, .val (.int .i64 fs.length)), (44, .val (.slice va fs.length vcap)), (6, .loc 0 0), (4, .loc 1 0), (9, .val (.slice ua (unionD d.edits o.edits).length ucap))])
   (fun i => [.box [.val (.int .i64 d.id), .val (.int .i64 d.epoch), .val (.int .i64 (nextD d.next (fs.take i))), .val (.slice a d.edits.length cap)], .box [.val (.int .i64 0), .val (.int .i64 0), .val (.int .i64 0), .val (.slice none 0 0)]])
   (fun i _ => i ≤ fs.length) (fun i => fs.length - i) 0 [4, 2] ?_ ?_ ?_ ?_
  ·(try simp only [go_sem, ↓reduceIte, nQ1, nQ2, nQ3, nQ4, nQ5, nQ6, reduceCtorEq]) <;> (repeat' (first | rfl | trivial | constructor | (intro h; exact absurd rfl h)))
  ·try simp only [go_sem, ↓reduceIte, nQ1, nQ2, nQ3, nQ4, nQ5, nQ6, reduceCtorEq]
   rfl
  ·exact Nat.zero_le _
  rintro i env R4 hle4 hE hi
  (simp only [go_sem] at hE; obtain ⟨g46, g45, g44, g6, g4, g9⟩ := hE; simp only [go_sem, ↓reduceIte, nQ1, nQ2, nQ3, nQ4, nQ5, nQ6, reduceCtorEq, g46, g45, g44, g6, g4, g9]; dsimp only at *)
  refine ⟨fun hlt => ⟨hlt, ?_⟩, fun hge => ?_⟩
  ·have hlt' : i < fs.length := by omega
   obtain ⟨ad, p, had, hp1, hR, hpok⟩ := hff i hlt'
   have hpb := hfb _ (List.getElem_mem hlt')
   rw [← hp1] at hpb
   have htd : p.1.seq.tdiv 64 = p.1.seq / 64 := tdiv_nonneg' (by omega) (by omega)
   have hsn := nextD_snoc d.next (fs.take i) fs[i]
   rw [← List.take_succ_eq_append_getElem hlt', ← hp1] at hsn
   refine vat ad had ?_
   try simp only [go_sem, ↓reduceIte, nQ1, nQ2, nQ3, nQ4, nQ5, nQ6, reduceCtorEq]
   refine vloadn p.ed.cells rfl (fun j u hj => hle4 _ _ (hR j u hj)) ?_
   simp only [go_sem, ↓reduceIte, nQ1, nQ2, nQ3, nQ4, nQ5, nQ6, reduceCtorEq, Ed.cells, Pl.ed, De.ed, g46, g45, g44, g6, g4, g9]
   refine ⟨by omega, _, W.in64 (by rw [htd]; omega), _, W.in64 (by rw [htd]; omega), ?_⟩
   refine ⟨_, W.in64 (by omega), i + 1, [], ?_⟩
   rw [hsn, htd]
   try simp only [go_sem, ↓reduceIte, nQ1, nQ2, nQ3, nQ4, nQ5, nQ6, reduceCtorEq]
   exact ⟨by omega, rfl, by decide, by omega⟩
  ·obtain rfl : i = fs.length := by omega
   rw [List.take_length] at *
   refine vcall (hW _ R4 _ _ _ rfl (hu.mono hle4)) ?_
   rintro R5 w hle5 ⟨v', rfl, hv'⟩
   have hv1 := hv'.one
   obtain ⟨va2, vc2, rfl, _⟩ := hv'.form
   try simp only [go_sem, ↓reduceIte, nQ1, nQ2, nQ3, nQ4, nQ5, nQ6, reduceCtorEq, g6, g4]
   exact ⟨_, rfl, hv'⟩
def LacksQ (d o : Dv) (a : Option Addr) (cap : Nat) (b : Option Addr) (cap' : Nat) (R : RO) (s' : St) : Prop := ∃ env, env 2 = .loc 0 0 ∧ env 3 = .loc 1 0 ∧
    ((s' = ⟨env, [.box [.val (.int .i64 d.id), .val (.int .i64 d.epoch), .val (.int .i64 d.next), .val (.slice a d.edits.length cap)], .box [.val (.int .i64 o.id), .val (.int .i64 o.epoch), .val (.int .i64 o.next), .val (.slice b o.edits.length cap')],
      .box [.val (.int .i64 d.id), .val (.int .i64 d.epoch), .val (.int .i64 d.next), .val (.slice a d.edits.length cap)], .box [.val (.int .i64 o.id), .val (.int .i64 o.epoch), .val (.int .i64 o.next), .val (.slice b o.edits.length cap')]], R⟩ ∧ env 5 = .loc 2 0 ∧ env 6 = .loc 3 0) ∨
     (s' = ⟨env, [.box [.val (.int .i64 d.id), .val (.int .i64 d.epoch), .val (.int .i64 d.next), .val (.slice a d.edits.length cap)], .box [.val (.int .i64 o.id), .val (.int .i64 o.epoch), .val (.int .i64 o.next), .val (.slice b o.edits.length cap')],
      .box [.val (.int .i64 o.id), .val (.int .i64 o.epoch), .val (.int .i64 o.next), .val (.slice b o.edits.length cap')], .box [.val (.int .i64 d.id), .val (.int .i64 d.epoch), .val (.int .i64 d.next), .val (.slice a d.edits.length cap)]], R⟩ ∧ env 5 = .loc 3 0 ∧ env 6 = .loc 2 0))
theorem dLacks (d o : Dv) (dv ov : Value) (R : RO) (h : EdsV R dv d.edits) (k : EdsV R ov o.edits) : CallsR Tryz.prog 16 [.agg (dvCells d dv).toArray, .agg (dvCells o ov).toArray] R fun R' r => EdsV R' r (dvLacks d o) := by
 have hV := fun R' (hle : RO.le R R') => dValid d dv R' (h.mono hle)
 have hVo := fun R' (hle : RO.le R R') => dValid o ov R' (k.mono hle)
 have h0 := h
 have k0 := k
 obtain ⟨a, cap, rfl, hc, hf⟩ := h.form
 obtain ⟨b, cap', rfl, hc', hf'⟩ := k.form
 simp only [dvCells] at hV hVo ⊢
 refine callsT mix Tryz.func16 comp16 (by simp [Tryz.ntmps16]) ?_; simp only [vc16, rs16]
 (refine cutR ?_ ?_ ?_; rotate_left; (try simp only [go_sem, ↓reduceIte, nQ1, nQ2, nQ3, nQ4, nQ5, nQ6, reduceCtorEq, true_and]; rfl))
 rw [tCode_seq]
 refine cutT (LacksQ d o a cap b cap' R) ?_ ?_
 ·try simp only [go_sem, ↓reduceIte, nQ1, nQ2, nQ3, nQ4, nQ5, nQ6, reduceCtorEq]
  repeat' (with_reducible first | refine And.intro ?_ ?_ | intro _)
  all_goals unfold LacksQ
  all_goals first
   | exact ⟨_, rfl, rfl, .inl ⟨rfl, rfl, rfl⟩⟩
   | exact ⟨_, rfl, rfl, .inr ⟨rfl, rfl, rfl⟩⟩
 rintro s' ⟨env, e2, e3, hst⟩
 rcases hst with ⟨rfl, e5, e6⟩ | ⟨rfl, e5, e6⟩
 all_goals
  try simp only [go_sem, ↓reduceIte, nQ1, nQ2, nQ3, nQ4, nQ5, nQ6, reduceCtorEq, e2, e3, e5, e6]
  refine vcall (hV R (RO.le_refl _)) ?_
  rintro R1 r hle1 rfl
  unfold dvLacks
  cases hv : validV d with
  | false =>
   try simp only [go_sem, ↓reduceIte, nQ1, nQ2, nQ3, nQ4, nQ5, nQ6, reduceCtorEq, e2, e3, e5, e6]
   rw [if_neg (by simp)]
   exact EdsV.nil _
  | true =>
  try simp only [go_sem, ↓reduceIte, nQ1, nQ2, nQ3, nQ4, nQ5, nQ6, reduceCtorEq, e2, e3, e5, e6]
  refine vcall (hVo R1 hle1) ?_
  rintro R2 r hle2 rfl
  cases hvo : validV o with
  | false =>
   try simp only [go_sem, ↓reduceIte, nQ1, nQ2, nQ3, nQ4, nQ5, nQ6, reduceCtorEq, e2, e3, e5, e6]
   exact EdsV.nil _
  | true =>
  have hle12 := RO.le_trans hle1 hle2
  have hd1 := validV_hdr hv
  have ho1 := validV_hdr hvo
  have hd2 := validV_all hv
  have ho2 := validV_all hvo
  have hM := mgo_spec (d.edits.length + o.edits.length) d.edits o.edits (Nat.le_refl _) hd2.2 ho2.2
  rw [if_pos ⟨rfl, rfl⟩]
  try simp only [go_sem, ↓reduceIte, nQ1, nQ2, nQ3, nQ4, nQ5, nQ6, reduceCtorEq, e2, e3, e5, e6]
  refine vcall (dMergeL d.edits o.edits _ _ R2 (h0.mono hle12) (k0.mono hle12) (by omega) (by omega)) ?_
  rintro R3 w hle3 ⟨u, v, rfl, hu, hvf⟩
  rw [hM.fresh] at hvf
  obtain ⟨ua, ucap, rfl, _⟩ := hu.form
  obtain ⟨va, vcap, rfl, _⟩ := hvf.form
  try simp only [go_sem, ↓reduceIte, nQ1, nQ2, nQ3, nQ4, nQ5, nQ6, reduceCtorEq, e2, e3, e5, e6]
  have hW := fun R' old w ds ho hw => dWith d old w ds R' ho hw
  simp only [dvCells] at hW
  refine vcall (hW R3 _ _ _ rfl hvf) ?_
  rintro R5 w hle5 ⟨v', rfl, hv'⟩
  have hv1 := hv'.one
  obtain ⟨va2, vc2, rfl, _⟩ := hv'.form
  try simp only [go_sem, ↓reduceIte, nQ1, nQ2, nQ3, nQ4, nQ5, nQ6, reduceCtorEq, e2, e3, e5, e6]
  exact hv'
end Go.Proofs.YtcjdbfnnbejmeaaGreat
