import Derived.Test.YtojckjngjfgfdaaGreatEs
import Derived.Test.YtojckjngjfgfdaaGreatEu
import Derived.Test.YtojckjngjfgfdaaGreatCt
namespace Go.Proofs.YtojckjngjfgfdaaGreat
set_option linter.unusedSimpArgs false
set_option linter.unusedVariables false
open Go.Proofs.YtojckjngjfgfdaaGreat.Vc
/-! ### Package device: order, equality -/
theorem dOrder (a b : Ed) (R : RO) : CallsR Tryz.prog 60 [a.val, b.val] R fun _ v => v = .int .i64 (cmpE a b) := by
  simp only [Ed.val]
  refine callsT mix Tryz.func60 comp60 (by simp [Tryz.ntmps60]) ?_; simp only [go_sem, ↓reduceIte, Nat.reduceEqDiff, Nat.reduceAdd, Nat.reduceMul, Nat.reduceLeDiff, Nat.reduceLT, Nat.reduceBNe, reduceCtorEq, vc60, rs60]
  refine vcall (eCompare a.seq b.seq R) ?_
  rintro R1 v h1 rfl
  try simp only [go_sem, ↓reduceIte, Nat.reduceEqDiff, Nat.reduceAdd, Nat.reduceMul, Nat.reduceLeDiff, Nat.reduceLT, Nat.reduceBNe, reduceCtorEq]
  refine vcall (eCompare a.device b.device R1) ?_
  rintro R2 v h2 rfl
  try simp only [go_sem, ↓reduceIte, Nat.reduceEqDiff, Nat.reduceAdd, Nat.reduceMul, Nat.reduceLeDiff, Nat.reduceLT, Nat.reduceBNe, reduceCtorEq]
  refine vfreeze ?_
  try simp only [go_sem, ↓reduceIte, Nat.reduceEqDiff, Nat.reduceAdd, Nat.reduceMul, Nat.reduceLeDiff, Nat.reduceLT, Nat.reduceBNe, reduceCtorEq]
  intro bb cap R3 hle hrow hcap hfr
  have hI : Ints R3 (.slice (some ⟨bb, 0, none⟩) 2 cap) [cmpI a.seq b.seq, cmpI a.device b.device] := RowIn.ints (xs := [cmpI a.seq b.seq, cmpI a.device b.device]) hrow (by simpa using hcap)
  refine vcall (eOr _ _ R3 hI (by simp)) ?_
  rintro R4 v h4 rfl
  try simp only [go_sem, ↓reduceIte, Nat.reduceEqDiff, Nat.reduceAdd, Nat.reduceMul, Nat.reduceLeDiff, Nat.reduceLT, Nat.reduceBNe, reduceCtorEq]
  unfold cmpE
  simp only [orI]
  by_cases h1 : cmpI a.seq b.seq = 0
  · by_cases h2 : cmpI a.device b.device = 0 <;> simp [h1, h2]
  · simp [h1]
theorem dSameNode (x y : Nd) (cx cy : List Value) (R : RO) (hx : NodeV R cx x) (hy : NodeV R cy y) : CallsR Tryz.prog 95 [.agg cx.toArray, .agg cy.toArray] R fun _ r => r = .bool (decide (x = y)) := by
  obtain ⟨lv, rfl, hi, hl⟩ := hx
  obtain ⟨lu, rfl, hi', hl'⟩ := hy
  obtain ⟨kind, cal, l, r, n, m, list, name⟩ := x
  obtain ⟨kind', cal', l', r', n', m', list', name'⟩ := y
  simp only [Nd.cells] at *
  refine callsT mix Tryz.func95 comp95 (by simp [Tryz.ntmps95]) ?_; simp only [go_sem, ↓reduceIte, Nat.reduceEqDiff, Nat.reduceAdd, Nat.reduceMul, Nat.reduceLeDiff, Nat.reduceLT, Nat.reduceBNe, reduceCtorEq, vc95, rs95]
  have hb : (name == name') = decide (name = name') := by
    by_cases e : name = name'
    · subst e
      simp only [decide_true]
      exact bytes_beq name
    · rw [decide_eq_false e]
      cases hq : (name == name') with
      | false => rfl
      | true => exact absurd (bytes_eq hq) e
  rw [hb]
  simp only [Nd.mk.injEq]
  repeat' (with_reducible first | refine And.intro ?_ ?_ | intro _)
  · refine vcall (eEqual list list' lv lu R hi hi' (by omega)) ?_
    rintro R1 v h1 rfl
    try simp only [go_sem, ↓reduceIte, Nat.reduceEqDiff, Nat.reduceAdd, Nat.reduceMul, Nat.reduceLeDiff, Nat.reduceLT, Nat.reduceBNe, reduceCtorEq]
    simp_all
  all_goals simp_all
theorem hbDN : hasBody Tryz.prog 95 = true := by kernel_rfl
theorem dEqualFunc (xs ys : List Nd) (v u : Value) (R : RO) (h : RuleV R v xs) (k : RuleV R u ys) : CallsR Tryz.prog 94 [v, u, .func (.func 95) #[] #[]] R fun _ r => r = .bool (decide (xs = ys)) := by
  obtain ⟨cs, h1, h2, h3, h4⟩ := h
  obtain ⟨ds, k1, k2, k3, k4⟩ := k
  obtain ⟨a, cap, rfl, hc, hf⟩ := SlK.form h1
  obtain ⟨b, cap', rfl, hc', hf'⟩ := SlK.form k1
  refine callsT mix Tryz.func94 comp94 (by simp [Tryz.ntmps94]) ?_; simp only [go_sem, ↓reduceIte, Nat.reduceEqDiff, Nat.reduceAdd, Nat.reduceMul, Nat.reduceLeDiff, Nat.reduceLT, Nat.reduceBNe, reduceCtorEq, vc94, rs94]
  refine ⟨fun hne => ?_, fun he => ?_⟩
  · rw [decide_eq_false]; rintro rfl; exact hne (by omega)
  have he' : xs.length = ys.length := by omega
  refine vcLoop Nat (fun i => [(17, .val (.int .i64 i)), (0, .val (.slice a cs.length cap)), (15, .val (.slice a cs.length cap)), (16, .val (.int .i64 cs.length)), (1, .val (.slice b ds.length cap')), (2, .val (.func (.func 95) #[] #[]))]) (fun _ => []) (fun i _ => i ≤ cs.length ∧ xs.take i = ys.take i) (fun i => cs.length - i) 0 ?_ rfl ?_ ?_
  · (try simp only [go_sem, ↓reduceIte, Nat.reduceEqDiff, Nat.reduceAdd, Nat.reduceMul, Nat.reduceLeDiff, Nat.reduceLT, Nat.reduceBNe, reduceCtorEq]) <;> (repeat' (first | rfl | trivial | constructor | (intro h; exact absurd rfl h)))
  · exact ⟨Nat.zero_le _, rfl⟩
  rintro i env R1 hle hE ⟨hi, hp⟩
  (simp only [go_sem] at hE; obtain ⟨e17, e0, e15, e16, e1, e2⟩ := hE; simp only [go_sem, ↓reduceIte, Nat.reduceEqDiff, Nat.reduceAdd, Nat.reduceMul, Nat.reduceLeDiff, Nat.reduceLT, Nat.reduceBNe, reduceCtorEq, e17, e0, e15, e16, e1, e2]; dsimp only at *)
  refine ⟨fun hlt => ⟨hlt, ?_⟩, fun hge => ?_⟩
  · have hlt' : i < cs.length := by omega
    obtain ⟨hl, ad, had, hR⟩ := hf i hlt'
    obtain ⟨hl', ad', had', hR'⟩ := hf' i (by omega)
    have hx := h3 i _ _ (List.getElem?_eq_getElem hlt') (List.getElem?_eq_getElem (by omega))
    have hy := k3 i _ _ (List.getElem?_eq_getElem (by omega : i < ds.length)) (List.getElem?_eq_getElem (by omega : i < ys.length))
    obtain ⟨x, hxe⟩ : ∃ x, x = xs[i]'(by omega) := ⟨_, rfl⟩
    obtain ⟨y, hye⟩ : ∃ y, y = ys[i]'(by omega) := ⟨_, rfl⟩
    rw [← hxe] at hx
    rw [← hye] at hy
    have hx' := hx
    have hy' := hy
    obtain ⟨lv, hcx, hI, hIl⟩ := hx
    obtain ⟨lu, hcy, hI', hIl'⟩ := hy
    have ho : lv.oneCell' = true := by obtain ⟨_, _, rfl, _⟩ := hI.form; rfl
    have ho' : lu.oneCell' = true := by obtain ⟨_, _, rfl, _⟩ := hI'.form; rfl
    rw [hcx] at hR hx'
    rw [hcy] at hR' hy'
    refine vat ad had ?_
    try simp only [go_sem, ↓reduceIte, Nat.reduceEqDiff, Nat.reduceAdd, Nat.reduceMul, Nat.reduceLeDiff, Nat.reduceLT, Nat.reduceBNe, reduceCtorEq]
    refine vloadn (x.cells lv) rfl (fun j u hj => hle _ _ (hR j u hj)) ?_
    simp only [go_sem, ↓reduceIte, Nat.reduceEqDiff, Nat.reduceAdd, Nat.reduceMul, Nat.reduceLeDiff, Nat.reduceLT, Nat.reduceBNe, reduceCtorEq, Nd.cells, e17, e0, e15, e16, e1, e2]
    refine ⟨ho, by omega, vat ad' had' ?_⟩
    try simp only [go_sem, ↓reduceIte, Nat.reduceEqDiff, Nat.reduceAdd, Nat.reduceMul, Nat.reduceLeDiff, Nat.reduceLT, Nat.reduceBNe, reduceCtorEq]
    refine vloadn (y.cells lu) rfl (fun j u hj => hle _ _ (hR' j u hj)) ?_
    simp only [go_sem, ↓reduceIte, Nat.reduceEqDiff, Nat.reduceAdd, Nat.reduceMul, Nat.reduceLeDiff, Nat.reduceLT, Nat.reduceBNe, reduceCtorEq, Nd.cells, e17, e0, e15, e16, e1, e2]
    refine ⟨ho', ?_⟩
    refine ⟨hbDN, vcall (dSameNode x y _ _ R1 (hx'.mono hle) (hy'.mono hle)) ?_⟩
    rintro R2 w h6 rfl
    simp only [go_sem, ↓reduceIte, Nat.reduceEqDiff, Nat.reduceAdd, Nat.reduceMul, Nat.reduceLeDiff, Nat.reduceLT, Nat.reduceBNe, reduceCtorEq, e17, e0, e15, e16, e1, e2]
    refine ⟨fun hne => ?_, fun heq => ?_⟩
    · rw [decide_eq_false]; rintro rfl; exact hne (by rw [hxe, hye])
    · refine ⟨_, W.in64 (by omega), i + 1, by omega, by constructor, by omega, ?_⟩
      rw [List.take_succ_eq_append_getElem (by omega : i < xs.length), List.take_succ_eq_append_getElem (by omega : i < ys.length), hp, ← hxe, ← hye, heq]
  · obtain rfl : i = cs.length := by omega
    rw [h2, List.take_length, he', List.take_length] at hp
    simp [hp]
theorem dSame (x y : De) (cx cy : List Value) (R : RO) (hx : EdV R cx x) (hy : EdV R cy y) (hk : keyEq x y = true) : CallsR Tryz.prog 62 [.agg cx.toArray, .agg cy.toArray] R fun _ r => r = .bool (decide (x = y)) := by
  obtain ⟨a, n, c, e, h⟩ := hx
  obtain ⟨a', n', c', e', h'⟩ := hy
  rw [e, e']
  clear e e'
  obtain ⟨kind, day, device, seq, mv, minute, length, rule, zone⟩ := x
  obtain ⟨kind', day', device', seq', mv', minute', length', rule', zone'⟩ := y
  obtain ⟨md, mr, mt, mm, ml⟩ := mv
  obtain ⟨md', mr', mt', mm', ml'⟩ := mv'
  rw [keyEq_iff] at hk
  obtain ⟨hk1, hk2⟩ := hk
  simp only [De.ed, Ed.val] at *
  subst hk1 hk2
  refine callsT mix Tryz.func62 comp62 (by simp [Tryz.ntmps62]) ?_; simp only [go_sem, ↓reduceIte, Nat.reduceEqDiff, Nat.reduceAdd, Nat.reduceMul, Nat.reduceLeDiff, Nat.reduceLT, Nat.reduceBNe, reduceCtorEq, vc62, rs62]
  have hb : (zone == zone') = decide (zone = zone') := by
    by_cases e : zone = zone'
    · subst e
      simp only [decide_true]
      exact bytes_beq zone
    · rw [decide_eq_false e]
      cases hq : (zone == zone') with
      | false => rfl
      | true => exact absurd (bytes_eq hq) e
  rw [hb]
  simp only [De.mk.injEq, Mv.mk.injEq]
  repeat' (with_reducible first | refine And.intro ?_ ?_ | intro _)
  · refine vcall (dEqualFunc rule rule' _ _ R h h') ?_
    rintro R1 v h1 rfl
    try simp only [go_sem, ↓reduceIte, Nat.reduceEqDiff, Nat.reduceAdd, Nat.reduceMul, Nat.reduceLeDiff, Nat.reduceLT, Nat.reduceBNe, reduceCtorEq]
    simp_all
  all_goals (clear h h')
  all_goals simp_all
end Go.Proofs.YtojckjngjfgfdaaGreat
namespace Go.Proofs.YtojckjngjfgfdaaGreat
set_option linter.unusedSimpArgs false
set_option linter.unusedVariables false
open Go.Proofs.YtojckjngjfgfdaaGreat.Vc
/-! ### Devices: plain -/
structure Dv where
  id : Int
  epoch : Int
  next : Int
  edits : List De
  deriving DecidableEq
def okEd (next : Int) (e : De) : Bool := validD e && decide (e.seq / 64 < next)
def hdrOK (id epoch next : Int) (n : Nat) : Bool := decide (0 ≤ id ∧ id ≤ 15 ∧ 0 ≤ epoch ∧ epoch ≤ 63 ∧ 1 ≤ next ∧ next ≤ 17179869184 ∧ n ≤ 4096)
instance sortedDec (l : List De) : Decidable (SortedD l) := inferInstanceAs (Decidable (List.Pairwise _ l))
def validV (d : Dv) : Bool := hdrOK d.id d.epoch d.next d.edits.length && d.edits.all (okEd d.next) && decide (SortedD d.edits)
/-- Two sorted lists, merged: all; what the first one lacks; whether they agree. -/
def mgo : Nat → List De → List De → List De × List De × Bool
  | 0, _, _ => ([], [], true)
  | _ + 1, [], [] => ([], [], true)
  | n + 1, x :: a, [] => (x :: (mgo n a []).1, (mgo n a []).2.1, (mgo n a []).2.2)
  | n + 1, [], y :: b => (y :: (mgo n [] b).1, y :: (mgo n [] b).2.1, (mgo n [] b).2.2)
  | n + 1, x :: a, y :: b =>
    if lessD x y = true then (x :: (mgo n a (y :: b)).1, (mgo n a (y :: b)).2.1, (mgo n a (y :: b)).2.2)
    else if lessD y x = true then (y :: (mgo n (x :: a) b).1, y :: (mgo n (x :: a) b).2.1, (mgo n (x :: a) b).2.2)
    else (x :: (mgo n a b).1, (mgo n a b).2.1, decide (x = y) && (mgo n a b).2.2)
def freshD (a b : List De) : List De := b.filter fun y => !(a.any (keyEq y))
def agreeD (a b : List De) : Bool := a.all fun x => b.all fun y => !keyEq x y || decide (x = y)
def unionD (a b : List De) : List De := (mgo (a.length + b.length) a b).1
def nextD (n : Int) (l : List De) : Int := l.foldl (fun n e => max n (e.seq / 64 + 1)) n
theorem SortedD.tail {x : De} {l : List De} (h : SortedD (x :: l)) : SortedD l := (List.pairwise_cons.1 h).2
theorem SortedD.head {x : De} {l : List De} (h : SortedD (x :: l)) : ∀ y ∈ l, lessD x y = true := (List.pairwise_cons.1 h).1
theorem keyEq_refl (x : De) : keyEq x x = true := by simp [keyEq]
theorem lessD_key2 {x y z : De} (h : lessD x y = true) (k : keyEq y z = true) : lessD x z = true := by
  rw [lessD_iff] at *; rw [keyEq_iff] at k; omega
theorem keyEq_comm' {x y : De} (h : keyEq x y = false) : keyEq y x = false := by rw [keyEq_symm]; exact h
structure MgoS (a b : List De) (r : List De × List De × Bool) : Prop where
  sorted : SortedD r.1
  mem : ∀ x, x ∈ r.1 ↔ x ∈ a ∨ (x ∈ b ∧ ∀ y ∈ a, keyEq x y = false)
  fresh : r.2.1 = freshD a b
  agree : r.2.2 = agreeD a b
theorem freshD_nil (b : List De) : freshD [] b = b := by simp [freshD]
theorem freshD_cons_lt {x y : De} {a b : List De} (h : ∀ z ∈ b, lessD x z = true) : freshD (x :: a) b = freshD a b := by
  unfold freshD
  refine List.filter_congr fun z hz => ?_
  have h1 := lessD_key (h z hz)
  have h2 : keyEq z x = false := keyEq_comm' h1
  simp [h2]
theorem agreeD_cons (x : De) (a b : List De) : agreeD (x :: a) b = ((b.all fun y => !keyEq x y || decide (x = y)) && agreeD a b) := rfl
theorem all_lt {x : De} {b : List De} (h : ∀ z ∈ b, lessD x z = true) : (b.all fun y => !keyEq x y || decide (x = y)) = true := by
  rw [List.all_eq_true]
  intro z hz
  have := lessD_key (h z hz)
  simp [this]
theorem mgo_spec : ∀ (n : Nat) (a b : List De), a.length + b.length ≤ n → SortedD a → SortedD b → MgoS a b (mgo n a b)
  | 0, a, b, hn, _, _ => by
    have ha : a = [] := List.eq_nil_of_length_eq_zero (by omega)
    have hb : b = [] := List.eq_nil_of_length_eq_zero (by omega)
    subst ha hb
    exact ⟨List.Pairwise.nil, by simp [mgo], rfl, rfl⟩
  | n + 1, [], [], _, _, _ => ⟨List.Pairwise.nil, by simp [mgo], rfl, rfl⟩
  | n + 1, x :: a, [], hn, ha, hb => by
    have ih := mgo_spec n a [] (by simp at hn ⊢; omega) ha.tail hb
    refine ⟨List.pairwise_cons.2 ⟨fun z hz => ?_, ih.sorted⟩, fun z => ?_, by show (mgo n a []).2.1 = _; rw [ih.fresh]; rfl, by show (mgo n a []).2.2 = _; rw [ih.agree, agreeD_cons]; rfl⟩
    · rcases (ih.mem z).1 hz with h | ⟨h, _⟩
      · exact ha.head z h
      · simp at h
    · show z ∈ x :: (mgo n a []).1 ↔ _
      rw [List.mem_cons, ih.mem, List.mem_cons]
      simp
  | n + 1, [], y :: b, hn, ha, hb => by
    have ih := mgo_spec n [] b (by simp at hn ⊢; omega) ha hb.tail
    refine ⟨List.pairwise_cons.2 ⟨fun z hz => ?_, ih.sorted⟩, fun z => ?_, by show y :: (mgo n [] b).2.1 = _; rw [ih.fresh, freshD_nil, freshD_nil], by show (mgo n [] b).2.2 = _; rw [ih.agree]; rfl⟩
    · rcases (ih.mem z).1 hz with h | ⟨h, _⟩
      · simp at h
      · exact hb.head z h
    · show z ∈ y :: (mgo n [] b).1 ↔ _
      rw [List.mem_cons, ih.mem, List.mem_cons]
      simp
  | n + 1, x :: a, y :: b, hn, ha, hb => by
    unfold mgo
    by_cases hxy : lessD x y = true
    · rw [if_pos hxy]
      have ih := mgo_spec n a (y :: b) (by simp at hn ⊢; omega) ha.tail hb
      have hxb : ∀ z ∈ y :: b, lessD x z = true := fun z hz => by
        rcases List.mem_cons.1 hz with rfl | hz
        · exact hxy
        · exact lessD_trans hxy (hb.head z hz)
      refine ⟨List.pairwise_cons.2 ⟨fun z hz => ?_, ih.sorted⟩, fun z => ?_, by show (mgo n a (y :: b)).2.1 = _; rw [ih.fresh, freshD_cons_lt (y := y) hxb], by show (mgo n a (y :: b)).2.2 = _; rw [ih.agree, agreeD_cons, all_lt hxb, Bool.true_and]⟩
      · rcases (ih.mem z).1 hz with h | ⟨h, _⟩
        · exact ha.head z h
        · exact hxb z h
      · show z ∈ x :: (mgo n a (y :: b)).1 ↔ _
        rw [List.mem_cons, ih.mem, List.mem_cons (a := z) (b := x)]
        constructor
        · rintro (h | h | ⟨h1, h2⟩)
          · exact .inl (.inl h)
          · exact .inl (.inr h)
          · refine .inr ⟨h1, fun w hw => ?_⟩
            rcases List.mem_cons.1 hw with rfl | hw
            · exact keyEq_comm' (lessD_key (hxb z h1))
            · exact h2 w hw
        · rintro ((h | h) | ⟨h1, h2⟩)
          · exact .inl h
          · exact .inr (.inl h)
          · exact .inr (.inr ⟨h1, fun w hw => h2 w (List.mem_cons_of_mem _ hw)⟩)
    · rw [if_neg hxy]
      by_cases hyx : lessD y x = true
      · rw [if_pos hyx]
        have ih := mgo_spec n (x :: a) b (by simp at hn ⊢; omega) ha hb.tail
        have hya : ∀ z ∈ x :: a, lessD y z = true := fun z hz => by
          rcases List.mem_cons.1 hz with rfl | hz
          · exact hyx
          · exact lessD_trans hyx (ha.head z hz)
        have hyk : ((x :: a).any (keyEq y)) = false := List.any_eq_false.2 fun z hz => by rw [lessD_key (hya z hz)]; simp
        refine ⟨List.pairwise_cons.2 ⟨fun z hz => ?_, ih.sorted⟩, fun z => ?_, ?_, ?_⟩
        · rcases (ih.mem z).1 hz with h | ⟨h, _⟩
          · exact hya z h
          · exact hb.head z h
        · show z ∈ y :: (mgo n (x :: a) b).1 ↔ _
          rw [List.mem_cons, ih.mem, List.mem_cons (a := z) (b := y)]
          constructor
          · rintro (rfl | h | ⟨h1, h2⟩)
            · exact .inr ⟨.inl rfl, fun w hw => lessD_key (hya w hw)⟩
            · exact .inl h
            · exact .inr ⟨.inr h1, h2⟩
          · rintro (h | ⟨h1 | h1, h2⟩)
            · exact .inr (.inl h)
            · exact .inl h1
            · exact .inr (.inr ⟨h1, h2⟩)
        · show y :: (mgo n (x :: a) b).2.1 = _
          rw [ih.fresh]
          unfold freshD
          rw [List.filter_cons, hyk]
          rfl
        · show (mgo n (x :: a) b).2.2 = _
          rw [ih.agree]
          unfold agreeD
          rw [Bool.eq_iff_iff, List.all_eq_true, List.all_eq_true]
          refine ⟨fun h z hz => ?_, fun h z hz => ?_⟩
          · rw [List.all_cons, h z hz, keyEq_comm' (lessD_key (hya z hz))]; rfl
          · have := h z hz
            rw [List.all_cons, Bool.and_eq_true] at this
            exact this.2
      · rw [if_neg hyx]
        have hk : keyEq x y = true := lessD_total (by simpa using hxy) (by simpa using hyx)
        have ih := mgo_spec n a b (by simp at hn ⊢; omega) ha.tail hb.tail
        have hxb : ∀ z ∈ b, lessD x z = true := fun z hz => by
          have := hb.head z hz
          rw [lessD_iff] at *; rw [keyEq_iff] at hk; omega
        have hya : ∀ z ∈ a, lessD y z = true := fun z hz => by
          have := ha.head z hz
          rw [lessD_iff] at *; rw [keyEq_iff] at hk; omega
        refine ⟨List.pairwise_cons.2 ⟨fun z hz => ?_, ih.sorted⟩, fun z => ?_, ?_, ?_⟩
        · rcases (ih.mem z).1 hz with h | ⟨h, _⟩
          · exact ha.head z h
          · exact hxb z h
        · show z ∈ x :: (mgo n a b).1 ↔ _
          rw [List.mem_cons, ih.mem, List.mem_cons (a := z) (b := x), List.mem_cons (a := z) (b := y)]
          constructor
          · rintro (h | h | ⟨h1, h2⟩)
            · exact .inl (.inl h)
            · exact .inl (.inr h)
            · refine .inr ⟨.inr h1, fun w hw => ?_⟩
              rcases List.mem_cons.1 hw with rfl | hw
              · exact keyEq_comm' (lessD_key (hxb z h1))
              · exact h2 w hw
          · rintro ((h | h) | ⟨rfl | h1, h2⟩)
            · exact .inl h
            · exact .inr (.inl h)
            · have := h2 x (by simp)
              rw [keyEq_symm, hk] at this; cases this
            · exact .inr (.inr ⟨h1, fun w hw => h2 w (List.mem_cons_of_mem _ hw)⟩)
        · show (mgo n a b).2.1 = _
          rw [ih.fresh, ← freshD_cons_lt (x := x) (y := y) (a := a) hxb]
          unfold freshD
          rw [List.filter_cons, if_neg]
          simp [keyEq_symm y x, hk]
        · show (decide (x = y) && (mgo n a b).2.2) = _
          rw [ih.agree, agreeD_cons, List.all_cons, all_lt hxb, hk]
          have h1 : agreeD a (y :: b) = agreeD a b := by
            unfold agreeD
            rw [Bool.eq_iff_iff, List.all_eq_true, List.all_eq_true]
            refine ⟨fun h z hz => ?_, fun h z hz => ?_⟩
            · have := h z hz
              rw [List.all_cons, Bool.and_eq_true] at this
              exact this.2
            · rw [List.all_cons, h z hz, keyEq_comm' (lessD_key (hya z hz))]; rfl
          rw [h1]
          simp
theorem unionD_spec {a b : List De} (ha : SortedD a) (hb : SortedD b) : SortedD (unionD a b) ∧ ∀ x, x ∈ unionD a b ↔ x ∈ a ∨ (x ∈ b ∧ ∀ y ∈ a, keyEq x y = false) :=
  have h := mgo_spec _ a b (Nat.le_refl _) ha hb
  ⟨h.sorted, h.mem⟩
def stampD (d : Dv) (e : De) : De := { e with device := d.id, seq := 64 * d.next + d.epoch }
def bareD (e : De) : De := { e with device := 0, seq := 1 }
def dvNew (id : Int) : Except Int Dv := if 0 ≤ id ∧ id ≤ 15 then .ok ⟨id, 0, 1, []⟩ else .error 1
def dvAdd (d : Dv) (e : De) : Except Int Dv :=
  if validV d = true ∧ validD (bareD e) = true then (if 4096 ≤ d.edits.length ∨ 17179869184 ≤ d.next then .error 2 else .ok ⟨d.id, d.epoch, d.next + 1, d.edits ++ [stampD d e]⟩) else .error 1
def dvSync (d o : Dv) : Except Int Dv :=
  if validV d = true ∧ validV o = true then
    (if agreeD d.edits o.edits = true then (if 4096 < (unionD d.edits o.edits).length then .error 2 else .ok ⟨d.id, d.epoch, nextD d.next (freshD d.edits o.edits), unionD d.edits o.edits⟩) else .error 1)
  else .error 1
def dvRestore (d : Dv) (ep : Int) : Except Int Dv :=
  if validV d = true ∧ 0 ≤ ep ∧ ep ≤ 63 then (if ep ≤ d.epoch then .error 9 else .ok ⟨d.id, ep, d.next, d.edits⟩) else .error 1
def dvLacks (d o : Dv) : List De := if validV d = true ∧ validV o = true then freshD d.edits o.edits else []
end Go.Proofs.YtojckjngjfgfdaaGreat
namespace Go.Proofs.YtojckjngjfgfdaaGreat
set_option linter.unusedSimpArgs false
set_option linter.unusedVariables false
open Go.Proofs.YtojckjngjfgfdaaGreat.Vc
/-! ### Package device: copies -/
theorem dCloneEdits (ds : List De) (v : Value) (R : RO) (h : EdsV R v ds) : CallsS Tryz.prog 54 [.val v] [] R fun R' bs r =>
    ∃ ps : List Pl, ps.map (·.1) = ds ∧ (∀ p ∈ ps, PlOK R' p) ∧ ((ds = [] ∧ bs = [] ∧ r = .val (.slice none 0 0)) ∨ (bs = [.dead, .row 31 13 (rowP ps)] ∧ r = .sl 1 ds.length)) := by
  have hdl : ds.length ≤ 1000000000 := by obtain ⟨_, _, _, _, h⟩ := h; exact h
  obtain ⟨a0, cap0, e0, _, hf⟩ := h.form
  obtain ⟨a, cap, ps, e1, hps, hpo, hsrc⟩ := h.src
  rw [e0] at e1
  simp only [Value.slice.injEq] at e1
  obtain ⟨rfl, _, rfl⟩ := e1
  subst e0
  have hpl : ps.length = ds.length := by rw [← hps]; simp
  refine callsTS mix Tryz.func54 comp54 (by simp [Tryz.ntmps54]) rfl rfl ?_; simp only [go_sem, ↓reduceIte, Nat.reduceEqDiff, Nat.reduceAdd, Nat.reduceMul, Nat.reduceLeDiff, Nat.reduceLT, Nat.reduceBNe, reduceCtorEq, vc54, rs54]
  refine ⟨fun hn => ?_, fun hs => ?_⟩
  · have hds : ds = [] := by
      cases hd : ds with
      | nil => rfl
      | cons x r =>
        exfalso
        obtain ⟨ad, _, _, _, e, _⟩ := hf 0 (by rw [hd]; simp)
        rw [e] at hn; cases hn
    exact ⟨ps, hps, hpo, hds⟩
  · refine hsrc ?_
    try simp only [go_sem, ↓reduceIte, Nat.reduceEqDiff, Nat.reduceAdd, Nat.reduceMul, Nat.reduceLeDiff, Nat.reduceLT, Nat.reduceBNe, reduceCtorEq]
    refine vappO [] rfl rfl (by omega) ?_
    try simp only [go_sem, ↓reduceIte, Nat.reduceEqDiff, Nat.reduceAdd, Nat.reduceMul, Nat.reduceLeDiff, Nat.reduceLT, Nat.reduceBNe, reduceCtorEq]
    exact ⟨ps, hps, hpo, .inr ⟨rfl, rfl⟩⟩
theorem dClone (d : De) (ra : Option Addr) (rn rc : Nat) (R : RO) (h : RuleV R (.slice ra rn rc) d.rule) : CallsR Tryz.prog 90 [.agg ((d.ed ra rn rc).cells).toArray] R fun R' v => ∃ ra' rn' rc', v = .agg ((d.ed ra' rn' rc').cells).toArray ∧ RuleV R' (.slice ra' rn' rc') d.rule := by
  have hxl : d.rule.length ≤ 1000000000 := by obtain ⟨_, _, _, _, h⟩ := h; exact h
  have hcl := eCloneRule d.rule _ R h hxl
  have hrn := h.len
  subst hrn
  simp only [Ed.cells, De.ed]
  refine callsT mix Tryz.func90 comp90 (by simp [Tryz.ntmps90]) ?_; simp only [go_sem, ↓reduceIte, Nat.reduceEqDiff, Nat.reduceAdd, Nat.reduceMul, Nat.reduceLeDiff, Nat.reduceLT, Nat.reduceBNe, reduceCtorEq, vc90, rs90]
  refine vhand0 [] [.val (.slice ra d.rule.length rc)] [] hcl rfl rfl rfl trivial (by simp) rfl rfl ?_
  rintro R1 bs r hle1 ⟨cs, h1, h2, h3, h4⟩ _
  rcases h4 with ⟨hx, rfl, rfl⟩ | ⟨rfl, rfl⟩
  · try simp only [go_sem, ↓reduceIte, Nat.reduceEqDiff, Nat.reduceAdd, Nat.reduceMul, Nat.reduceLeDiff, Nat.reduceLT, Nat.reduceBNe, reduceCtorEq, Int.reduceLE, Int.reduceLT, Int.reduceToNat, Int.cast_ofNat_Int, Int.reduceEq, Int.reduceNe, setG_no]
    refine vcLoop Unit (fun _ => [(11, .val (.int .i64 0)), (10, .val (.int .i64 0)), (1, .loc 0 0), (2, .loc 1 0)]) (fun _ => [.box [.val (.int .i64 d.kind), .val (.int .i64 d.day), .val (.int .i64 d.device), .val (.int .i64 d.seq), .val (.int .i64 d.mv.day), .val (.bool d.mv.drop), .val (.int .i64 d.mv.toDay), .val (.int .i64 d.mv.minute), .val (.int .i64 d.mv.length), .val (.int .i64 d.minute), .val (.int .i64 d.length), .val (.slice none 0 0), .val (.string d.zone)],
      .box [.val (.int .i64 0), .val (.int .i64 0), .val (.int .i64 0), .val (.int .i64 0), .val (.int .i64 0), .val (.bool false), .val (.int .i64 0), .val (.int .i64 0), .val (.int .i64 0), .val (.int .i64 0), .val (.int .i64 0), .val (.slice none 0 0), .val (.string ⟨#[]⟩)]]) (fun _ _ => True) (fun _ => 0) () ?_ ?_ trivial ?_
    · (try simp only [go_sem, ↓reduceIte, Nat.reduceEqDiff, Nat.reduceAdd, Nat.reduceMul, Nat.reduceLeDiff, Nat.reduceLT, Nat.reduceBNe, reduceCtorEq]) <;> (repeat' (first | rfl | trivial | constructor | (intro h; exact absurd rfl h)))
    · try simp only [go_sem, ↓reduceIte, Nat.reduceEqDiff, Nat.reduceAdd, Nat.reduceMul, Nat.reduceLeDiff, Nat.reduceLT, Nat.reduceBNe, reduceCtorEq]
    rintro _ env R2 hle hE _
    (simp only [go_sem] at hE; obtain ⟨e11, e10, e1, e2⟩ := hE; simp only [go_sem, ↓reduceIte, Nat.reduceEqDiff, Nat.reduceAdd, Nat.reduceMul, Nat.reduceLeDiff, Nat.reduceLT, Nat.reduceBNe, reduceCtorEq, e11, e10, e1, e2]; dsimp only at *)
    refine ⟨fun h => absurd h (by omega), fun _ => ?_⟩
    exact ⟨none, 0, 0, rfl, by rw [hx]; exact ⟨[], ⟨none, 0, rfl, Nat.le_refl _, by simp⟩, rfl, by simp, by simp⟩⟩
  · try simp only [go_sem, ↓reduceIte, Nat.reduceEqDiff, Nat.reduceAdd, Nat.reduceMul, Nat.reduceLeDiff, Nat.reduceLT, Nat.reduceBNe, reduceCtorEq, Int.reduceLE, Int.reduceLT, Int.reduceToNat, Int.cast_ofNat_Int, Int.reduceEq, Int.reduceNe, setG_no]
    have hN : Nodes R1 cs d.rule := ⟨h1, h3⟩
    clear h1 h2 h3 hcl
    refine vcLoop (Nat × List (List Value)) (fun p => [(11, .val (.int .i64 p.1)), (10, .val (.int .i64 d.rule.length)), (1, .loc 0 0), (2, .loc 1 0)]) (fun p => [.box [.val (.int .i64 d.kind), .val (.int .i64 d.day), .val (.int .i64 d.device), .val (.int .i64 d.seq), .val (.int .i64 d.mv.day), .val (.bool d.mv.drop), .val (.int .i64 d.mv.toDay), .val (.int .i64 d.mv.minute), .val (.int .i64 d.mv.length), .val (.int .i64 d.minute), .val (.int .i64 d.length), .sl 3 d.rule.length, .val (.string d.zone)],
      .box [.val (.int .i64 0), .val (.int .i64 0), .val (.int .i64 0), .val (.int .i64 0), .val (.int .i64 0), .val (.bool false), .val (.int .i64 0), .val (.int .i64 0), .val (.int .i64 0), .val (.int .i64 0), .val (.int .i64 0), .val (.slice none 0 0), .val (.string ⟨#[]⟩)], .dead, .row 149 8 p.2.flatten]) (fun p R => p.1 ≤ d.rule.length ∧ Nodes R p.2 d.rule) (fun p => d.rule.length - p.1) (0, cs) ?_ ?_ ?_ ?_
    · (try simp only [go_sem, ↓reduceIte, Nat.reduceEqDiff, Nat.reduceAdd, Nat.reduceMul, Nat.reduceLeDiff, Nat.reduceLT, Nat.reduceBNe, reduceCtorEq]) <;> (repeat' (first | rfl | trivial | constructor | (intro h; exact absurd rfl h)))
    · try simp only [go_sem, ↓reduceIte, Nat.reduceEqDiff, Nat.reduceAdd, Nat.reduceMul, Nat.reduceLeDiff, Nat.reduceLT, Nat.reduceBNe, reduceCtorEq]
    · exact ⟨Nat.zero_le _, hN⟩
    rintro ⟨i, cs⟩ env R2 hle hE ⟨hi, hN⟩
    (simp only [go_sem] at hE; obtain ⟨e11, e10, e1, e2⟩ := hE; simp only [go_sem, ↓reduceIte, Nat.reduceEqDiff, Nat.reduceAdd, Nat.reduceMul, Nat.reduceLeDiff, Nat.reduceLT, Nat.reduceBNe, reduceCtorEq, e11, e10, e1, e2]; dsimp only at *)
    have hlen := hN.1
    have h8 := hN.len
    have hfl := length_flattenK h8
    refine ⟨fun hlt => ?_, fun hge => ?_⟩
    · have hlt' : i < d.rule.length := by omega
      have hx := hN.2 i _ _ (List.getElem?_eq_getElem (by omega : i < cs.length)) (List.getElem?_eq_getElem hlt')
      obtain ⟨lv, hcx, hI, hIl⟩ := hx
      have hget : cs.flatten[i * 8 + 6]? = some lv := by
        rw [getElem?_flatten h8 i 6 _ (List.getElem?_eq_getElem (by omega : i < cs.length)) (by omega), hcx]
        rfl
      refine ⟨hlt, lv, hget, vcall (eCloneInts _ lv R2 hI hIl) ?_⟩
      intro R3 u hle3 hu
      obtain ⟨ua, ucap, rfl, hucap, huf⟩ := hu.form
      try simp only [go_sem, ↓reduceIte, Nat.reduceEqDiff, Nat.reduceAdd, Nat.reduceMul, Nat.reduceLeDiff, Nat.reduceLT, Nat.reduceBNe, reduceCtorEq, Int.reduceLE, Int.reduceLT, Int.reduceToNat, Int.cast_ofNat_Int, Int.reduceEq, Int.reduceNe, e11, e10, e1, e2]
      refine ⟨hlt, by omega, _, W.in64 (by omega), (i + 1, cs.set i (d.rule[i].cells (.slice ua (d.rule[i]).list.length ucap))), by dsimp only; omega, ?_, by dsimp only; omega, by simp [hlen], ?_⟩
      · refine ⟨rfl, ?_⟩
        rw [flat_set cs h8 i 6 _ _ (List.getElem?_eq_getElem (by omega : i < cs.length)) (by omega), hcx]
        rfl
      · intro j c x hj hx
        rw [List.getElem?_set] at hj
        split at hj
        · rename_i hij
          subst hij
          rw [if_pos (by omega)] at hj
          simp only [Option.some.injEq] at hj
          rw [List.getElem?_eq_getElem hlt'] at hx
          simp only [Option.some.injEq] at hx
          subst hj hx
          exact ⟨_, rfl, hu, hIl⟩
        · exact (hN.2 j c x hj hx).mono hle3
    · intro b cap R3 hle3 hrow hcap hfr
      try simp only [go_sem, ↓reduceIte, Nat.reduceEqDiff, Nat.reduceAdd, Nat.reduceMul, Nat.reduceLeDiff, Nat.reduceLT, Nat.reduceBNe, reduceCtorEq, e1, e2]
      exact ⟨_, _, _, rfl, cs, by rw [← hlen]; exact RowIn.slK hrow h8 (by omega) hcap, hlen, fun j c x hj hx => (hN.2 j c x hj hx).mono hle3, hxl⟩
end Go.Proofs.YtojckjngjfgfdaaGreat
