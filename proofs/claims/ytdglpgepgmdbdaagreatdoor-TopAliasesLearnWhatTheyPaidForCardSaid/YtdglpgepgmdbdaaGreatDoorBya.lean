/- Lemmas of our own, no statement of the seat; the last one of the claim's texts proves the law. -/
import Derived.ProofKit
import Derived.SizedLaws
import Derived.Deep.Slices
import Derived.Deep.Fields
import Derived.Lib.SmallJoins
import Derived.Test.YtdglpgepgmdbdaaGreatDoorRows
import Derived.Test.YtdglpgepgmdbdaaGreatDoorVcI
open Nat renaming reduceEqDiff → nQ1, reduceAdd → nQ2, reduceMul → nQ3, reduceLeDiff → nQ4, reduceLT → nQ5, reduceBNe → nQ6
open Int renaming reduceLE → iQ1, reduceLT → iQ2, reduceToNat → iQ3, cast_ofNat_Int → iQ4, reduceEq → iQ5, reduceNe → iQ6
namespace Go.Proofs.YtdglpgepgmdbdaaGreatDoor
instance drewJ : Go.Proofs.YtdglpgepgmdbdaaGreatDoor.Vc.Drew := ⟨1⟩
set_option linter.unusedSimpArgs false
set_option linter.unusedVariables false
open Go.ChangeShapes Go.WideShapes Go.ChangeAt Go.RowKit Go.Joins Go.Proofs.YtdglpgepgmdbdaaGreatDoor.Vc
theorem Tryz.own : ownKnob Tryz.prog.godebug = none := by kernel_rfl
theorem Tryz.laidOut : laidOutB Tryz.prog = true := by kernel_rfl
section
variable {H : Type} {enc : TypeId × Value → H} {P : Program}
theorem trodAll_stay (hl : laidOutB P = true) {W W' : World} {sp : Nat → Bool} (hb : Ext W W') : ∀ {ts : List TypeId} {vs : List Value} {ds : List (DataW H)} {ps : List MemPlace},
  (∀ t ∈ ts, P.readableRec t = true ∧ t < P.types.size) → DataW.TrodAll enc P W 0 (fun _ => true) true ts vs ds ps → (∀ x ∈ ps, x.block < W.heap.size) → (∀ x ∈ ps, sp x.block = true) → DataW.TrodAll enc P W' 0 sp true ts vs ds ps
 | [], [], [], ps, _, h, _, _ => h
 | t :: ts, v :: vs, d :: ds, ps, ht, ⟨p, q, h1, h2, he⟩, hlt, hsp => by
  subst he
  refine ⟨p, q, WideElems.Trod_stays hl (ht t (by simp)).1 (ht t (by simp)).2 h1 (fun x hx => hb.below.same (hlt x (by simp [hx]))) (fun x hx => hsp x (by simp [hx])), ?_, rfl⟩
  exact trodAll_stay hl hb (fun t h => ht t (by simp [h])) h2 (fun x hx => hlt x (by simp [hx])) (fun x hx => hsp x (by simp [hx]))
theorem trodAll_len {w : World} {base : Nat} {sp : Nat → Bool} {held : Bool} : ∀ {ts : List TypeId} {vs : List Value} {ds : List (DataW H)} {ps : List MemPlace}, DataW.TrodAll enc P w base sp held ts vs ds ps → ds.length = ts.length
 | [], [], [], ps, _ => rfl
 | t :: ts, v :: vs, d :: ds, ps, ⟨p, q, _, h2, _⟩ => by simp [trodAll_len h2]
theorem law_post {f : Func} {s : ChangeSpec} {W W' : World} {args : Array Value} {ds : List (DataW H)} {ps : List MemPlace} {tb : TypeId} (hl : laidOutB P = true) (hvars : s.vars = []) (hfres : f.resultTypes = #[tb]) (hb : P.underlying tb = some .bool)
  (hread : ∀ t ∈ f.params.toList, P.readableRec t = true ∧ t < P.types.size) (hs : s.fn H ds = { results := [.lit (.bool true)], args := ds })
  (hW : DataW.Whole enc P f.params.toList s.vars false W args.toList ds [] ps) (hA : DataW.TrodAll enc P W 0 (fun _ => true) true f.params.toList args.toList ds ps) (hext : Ext W W') : s.post enc P f false true false false W args (.bool true) W' := by
 have hlt : ∀ x ∈ ps, x.block < W.heap.size := fun x hx => hW.lt x hx
 have hds : s.fn H (ds ++ []) = { results := [.lit (.bool true)], args := ds } := by rw [List.append_nil]; exact hs
 have hbool : ∀ (b : Nat) (sp : Nat → Bool) (hd : Bool), DataW.TrodAll enc P W' b sp hd f.resultTypes.toList ((Value.bool true).resultList f.resultTypes.size) [.lit (.bool true)] [] := fun b sp hd => by
  rw [hfres]
  exact trodAll_mk1 ⟨1, by simp [DataW.trod, Value.cells, hb]⟩
 have hargs := fun (sp : Nat → Bool) (hsp : ∀ x ∈ ps, sp x.block = true) => trodAll_stay (enc := enc) hl hext hread hA hlt hsp
 have hnoV : ∀ sp : Nat → Bool, DataW.TrodVars enc P W' sp s.vars ([] : List (DataW H)) [] := fun sp => by rw [hvars]; rfl
 have hfrozen : W'.noneFrozen ps := by
  obtain ⟨_, _, _, _, _, hz, _⟩ := hW
  intro b off hp
  rw [hext.below.frozen (hlt _ hp)]
  exact hz b off hp
 refine ⟨ds, [], ps, [], ps, [], hW, by rw [hds]; exact hbool _ _ _, by rw [hds]; exact hargs (fun b => decide (b < W.heap.size)) (fun x hx => by simpa using hlt x hx), by rw [hds]; exact hnoV _, World.keptBut_mono (fun x hx => ⟨hx, .inr (by simpa using hx)⟩) (hext.below.frame (· ∈ ps)), fun _ => ⟨fun j t r hj hr => ?_, [.lit (.bool true)] ++ ds, [], ps, ⟨ps, [], ?_, hnoV _, by simp, hfrozen, fun e => by cases e⟩, fun p hp _ => by simpa using hp⟩⟩
 ·rw [hfres] at hj hr
  match j with
  | 0 =>
   simp only [List.getElem?_toArray, List.getElem?_cons_zero, Option.some.injEq] at hj
   subst hj
   have : r = .bool true := by simpa [Value.resultList] using hr.symm
   subst this
   simp [Value.okWide, hb, Cell.okWide, Cell.ok]
  | j + 1 => simp at hj
 ·have := trodAll_append (hargs (fun _ => true) (fun _ _ => rfl)) (hbool 0 (fun _ => true) true)
  simpa using this
end
def factsOf (W : World) : RO := fun a v => W.cell? a = some v
section
variable {H : Type} {enc : TypeId × Value → H} {W : World} {base fuel : Nat} {spare : Nat → Bool} {held : Bool}
end
end Go.Proofs.YtdglpgepgmdbdaaGreatDoor
namespace Go.Proofs.YtdglpgepgmdbdaaGreatDoor
set_option linter.unusedSectionVars false
variable [Go.Proofs.YtdglpgepgmdbdaaGreatDoor.Vc.Drew]
set_option linter.unusedSimpArgs false
set_option linter.unusedVariables false
structure Mk where
 f : Int
 t : Int
 kind : Int
 deriving DecidableEq
def hits (c n : Int) (m : Mk) : Bool := decide (m.f < c + n) && decide (c < m.t)
def touchK (l : List Mk) (k c n : Int) : Bool := l.any fun m => hits c n m && decide (m.kind = k)
def touchA (l : List Mk) (c n : Int) : Bool := l.any (hits c n)
def bitsL : List Bool → Int
 | [] => 0
 | b :: r => (if b = true then 1 else 0) + 2 * bitsL r
theorem bitsL_inj : ∀ {a b : List Bool}, a.length = b.length → bitsL a = bitsL b → a = b
 | [], [], _, _ => rfl
 | [], _ :: _, h, _ => by simp at h
 | _ :: _, [], h, _ => by simp at h
 | x :: a, y :: b, h, e => by
  rw [bitsL, bitsL] at e
  have hl : a.length = b.length := by simpa using h
  cases x <;> cases y <;> simp only [Bool.false_eq_true, if_false, if_true] at e
  ·rw [bitsL_inj hl (by omega)]
  ·omega
  ·omega
  ·rw [bitsL_inj hl (by omega)]
def cellV (l : List Mk) (g c n : Int) : Int :=
 if 3 ≤ g then bitsL [touchK l 1 c n, touchK l 2 c n, touchK l 3 c n, touchK l 4 c n, touchK l 5 c n, touchK l 6 c n, touchK l 7 c n, touchK l 8 c n] else if touchA l c n then 1 else 0
def OkM (l : List Mk) : Prop := ∀ m ∈ l, m.f < m.t ∧ 1 ≤ m.kind ∧ m.kind ≤ 8
theorem touchK_iff {l : List Mk} {k c n : Int} (hl : OkM l) (hn : 0 < n) : touchK l k c n = true ↔ ∃ m ∈ l, m.kind = k ∧ ∃ t, c ≤ t ∧ t < c + n ∧ m.f ≤ t ∧ t < m.t := by
 unfold touchK
 rw [List.any_eq_true]
 constructor
 ·rintro ⟨m, hm, h⟩
  simp only [hits, Bool.and_eq_true, decide_eq_true_eq] at h
  have := hl m hm
  refine ⟨m, hm, h.2, if c ≤ m.f then m.f else c, ?_⟩
  split <;> omega
 ·rintro ⟨m, hm, hk, t, h1, h2, h3, h4⟩
  refine ⟨m, hm, ?_⟩
  simp only [hits, Bool.and_eq_true, decide_eq_true_eq]
  omega
theorem touchA_iff {l : List Mk} {c n : Int} (hl : OkM l) : touchA l c n = true ↔ ∃ k : Int, 1 ≤ k ∧ k ≤ 8 ∧ touchK l k c n = true := by
 unfold touchA touchK
 simp only [List.any_eq_true, Bool.and_eq_true, decide_eq_true_eq]
 constructor
 ·rintro ⟨m, hm, h⟩; exact ⟨m.kind, (hl m hm).2.1, (hl m hm).2.2, m, hm, h, rfl⟩
 ·rintro ⟨k, _, _, m, hm, h, _⟩; exact ⟨m, hm, h⟩
theorem agreeK {l m : List Mk} {g c n : Int} (hg : 3 ≤ g) : cellV l g c n = cellV m g c n ↔ ∀ k : Int, 1 ≤ k → k ≤ 8 → touchK l k c n = touchK m k c n := by
 unfold cellV
 rw [if_pos hg, if_pos hg]
 constructor
 ·intro h k h1 h8
  have e := bitsL_inj (by simp) h
  simp only [List.cons.injEq, and_true] at e
  obtain ⟨e1, e2, e3, e4, e5, e6, e7, e8⟩ := e
  rcases (by omega : k = 1 ∨ k = 2 ∨ k = 3 ∨ k = 4 ∨ k = 5 ∨ k = 6 ∨ k = 7 ∨ k = 8) with rfl | rfl | rfl | rfl | rfl | rfl | rfl | rfl <;> assumption
 ·intro h
  rw [h 1 (by decide) (by decide), h 2 (by decide) (by decide), h 3 (by decide) (by decide), h 4 (by decide) (by decide), h 5 (by decide) (by decide), h 6 (by decide) (by decide), h 7 (by decide) (by decide), h 8 (by decide) (by decide)]
theorem agreeA {l m : List Mk} {g c n : Int} (hg : ¬ 3 ≤ g) : cellV l g c n = cellV m g c n ↔ touchA l c n = touchA m c n := by
 unfold cellV
 rw [if_neg hg, if_neg hg]
 cases touchA l c n <;> cases touchA m c n <;> simp
theorem agree_cover {l m : List Mk} (hl : OkM l) (hm : OkM m) {g c n : Int} (hn : 0 < n) (h : ∀ t, c ≤ t → t < c + n → ∃ g' c' n', g ≤ g' ∧ 0 < n' ∧ c' ≤ t ∧ t < c' + n' ∧ c ≤ c' ∧ c' + n' ≤ c + n ∧ cellV l g' c' n' = cellV m g' c' n') : cellV l g c n = cellV m g c n := by
 have key : ∀ {x y : List Mk}, OkM x → OkM y → (∀ t, c ≤ t → t < c + n → ∃ g' c' n', g ≤ g' ∧ 0 < n' ∧ c' ≤ t ∧ t < c' + n' ∧ c ≤ c' ∧ c' + n' ≤ c + n ∧ cellV x g' c' n' = cellV y g' c' n') → (3 ≤ g → ∀ k : Int, 1 ≤ k → k ≤ 8 → touchK x k c n = true → touchK y k c n = true) ∧ (touchA x c n = true → touchA y c n = true) := by
  intro x y hx hy hc
  have up : ∀ {z : List Mk} {k c' n' : Int}, OkM z → 0 < n' → c ≤ c' → c' + n' ≤ c + n → touchK z k c' n' = true → touchK z k c n = true := fun hz h0 h1 h2 ht => by
   obtain ⟨mk, hmk, hk, t, g1, g2, g3, g4⟩ := (touchK_iff hz h0).1 ht
   exact (touchK_iff hz hn).2 ⟨mk, hmk, hk, t, by omega, by omega, g3, g4⟩
  refine ⟨fun hg k h1 h8 ht => ?_, fun ht => ?_⟩
  ·obtain ⟨mk, hmk, hk, t, g1, g2, g3, g4⟩ := (touchK_iff hx hn).1 ht
   obtain ⟨g', c', n', q1, q2, q3, q4, q5, q6, q7⟩ := hc t g1 g2
   have := (agreeK (by omega)).1 q7 k h1 h8
   refine up hy q2 q5 q6 ?_
   rw [← this]
   exact (touchK_iff hx q2).2 ⟨mk, hmk, hk, t, q3, q4, g3, g4⟩
  ·obtain ⟨k, h1, h8, hk⟩ := (touchA_iff hx).1 ht
   obtain ⟨mk, hmk, hk', t, g1, g2, g3, g4⟩ := (touchK_iff hx hn).1 hk
   obtain ⟨g', c', n', q1, q2, q3, q4, q5, q6, q7⟩ := hc t g1 g2
   have hxk : touchK x k c' n' = true := (touchK_iff hx q2).2 ⟨mk, hmk, hk', t, q3, q4, g3, g4⟩
   by_cases hg : 3 ≤ g'
   ·have := (agreeK hg).1 q7 k h1 h8
    exact (touchA_iff hy).2 ⟨k, h1, h8, up hy q2 q5 q6 (by rw [← this]; exact hxk)⟩
   ·have := (agreeA hg).1 q7
    have hya : touchA y c' n' = true := by rw [← this]; exact (touchA_iff hx).2 ⟨k, h1, h8, hxk⟩
    obtain ⟨k', e1, e8, hk2⟩ := (touchA_iff hy).1 hya
    exact (touchA_iff hy).2 ⟨k', e1, e8, up hy q2 q5 q6 hk2⟩
 have h1 := key hl hm h
 have h2 := key hm hl fun t a b => by
  obtain ⟨g', c', n', q1, q2, q3, q4, q5, q6, q7⟩ := h t a b
  exact ⟨g', c', n', q1, q2, q3, q4, q5, q6, q7.symm⟩
 by_cases hg : 3 ≤ g
 ·refine (agreeK hg).2 fun k a b => ?_
  rw [Bool.eq_iff_iff]
  exact ⟨h1.1 hg k a b, h2.1 hg k a b⟩
 ·refine (agreeA hg).2 ?_
  rw [Bool.eq_iff_iff]
  exact ⟨h1.2, h2.2⟩
end Go.Proofs.YtdglpgepgmdbdaaGreatDoor
