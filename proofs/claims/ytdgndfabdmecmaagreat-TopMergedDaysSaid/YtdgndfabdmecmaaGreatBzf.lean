/- Lemmas of our own, no statement of the seat; the last one of the claim's texts proves the law. -/
import Derived.RangeFuncNested
import Derived.RangeFuncBound
import Derived.RangeFuncCalls
import Derived.RangeFuncLeaves
import Derived.Shelf.Abstract
import Derived.Shelf.RegionOpen
import Derived.WalkKit
import Derived.OwnWalkIn
import Derived.TacticsInMore
import Derived.LoopNIn
import Derived.LoopIn
import Derived.Test.YtdgndfabdmecmaaGreatBze
open Nat renaming reduceEqDiff → Qa, reduceAdd → Qb, reduceMul → Qc, reduceLeDiff → Qd, reduceLT → Qe, reduceBNe → Qf
open Int renaming reduceLE → Ja, reduceLT → Jb, reduceToNat → Jc, cast_ofNat_Int → Jd, reduceEq → Je, reduceNe → Jf
set_option linter.unusedSimpArgs false
set_option linter.unusedVariables false
namespace Go.Proofs.YtdgndfabdmecmaaGreat
set_option linter.unusedSectionVars false
variable [Go.Proofs.YtdgndfabdmecmaaGreat.Vc.Drew]
open Go.Proofs.YtdgndfabdmecmaaGreat.Vc
abbrev Rule := Int × Int × Bool
def rcells (r : Rule) : List Value := [.int .i64 r.1, .int .i64 r.2.1, .bool r.2.2]
structure Cal where
 epoch : Int
 months : List Int
 leap : Int
 rules : List Rule
def okRule (r : Rule) : Prop := 1 ≤ r.1 ∧ r.1 ≤ 400 ∧ 0 ≤ r.2.1 ∧ r.2.1 < r.1
instance (r : Rule) : Decidable (okRule r) := by unfold okRule; infer_instance
def perFrom : Int → List Rule → Option Int
 | y, [] => some y
 | y, r :: rs => if okRule r then (if (Int.lcm y r.1 : Int) ≤ 400 then perFrom (Int.lcm y r.1) rs else none) else none
def Cal.valid (c : Cal) : Prop :=
 (0 ≤ c.epoch ∧ c.epoch ≤ 1048576) ∧ (1 ≤ c.months.length ∧ c.months.length ≤ 16) ∧ (-1 ≤ c.leap ∧ c.leap < c.months.length) ∧ c.rules.length ≤ 16 ∧ (c.leap = -1 → c.rules = []) ∧
  (∀ m ∈ c.months, 1 ≤ m ∧ m ≤ 40) ∧ (perFrom 1 c.rules).isSome = true
instance (c : Cal) : Decidable c.valid := by unfold Cal.valid; infer_instance
def Cal.per (c : Cal) : Int := (perFrom 1 c.rules).getD 1
def leapOf (rs : List Rule) (y : Int) : Bool := rs.foldl (fun acc r => if y % r.1 = r.2.1 then r.2.2 else acc) false
def Cal.mlen (c : Cal) (y : Int) (m : Nat) : Int := c.months.getD m 0 + if (m : Int) = c.leap ∧ leapOf c.rules y = true then 1 else 0
def sumTo (f : Nat → Int) : Nat → Int
 | 0 => 0
 | n + 1 => sumTo f n + f n
def Cal.ylen (c : Cal) (y : Int) : Int := sumTo (c.mlen y) c.months.length
def Cal.S (c : Cal) (n : Nat) : Int := sumTo (fun i => c.ylen (i + 1)) n
def Cal.days (c : Cal) : Int := c.S c.per.toNat
def Cal.first (c : Cal) (y : Int) : Int := c.epoch + (y - 1) / c.per * c.days + c.S ((y - 1) % c.per).toNat
theorem sumTo_congr {f g : Nat → Int} : ∀ n : Nat, (∀ i, i < n → f i = g i) → sumTo f n = sumTo g n
 | 0, _ => rfl
 | n + 1, h => by simp only [sumTo]; rw [sumTo_congr n (fun i hi => h i (by omega)), h n (by omega)]
theorem sumTo_bd {f : Nat → Int} {a b : Int} : ∀ n : Nat, (∀ i, i < n → a ≤ f i ∧ f i ≤ b) → n * a ≤ sumTo f n ∧ sumTo f n ≤ n * b
 | 0, _ => by simp [sumTo]
 | n + 1, h => by
  have h1 := sumTo_bd n (fun i hi => h i (by omega))
  have h2 := h n (by omega)
  simp only [sumTo]
  push_cast
  rw [Int.add_mul, Int.add_mul]
  omega
theorem okRule.bd {r : Rule} (h : okRule r) : 1 ≤ r.1 ∧ r.1 ≤ 400 := ⟨h.1, h.2.1⟩
theorem lcm_pos {a b : Int} (ha : 1 ≤ a) (hb : 1 ≤ b) : 1 ≤ (Int.lcm a b : Int) := by
 have : 0 < Int.lcm a b := Nat.pos_of_ne_zero (by rw [Ne, Int.lcm_eq_zero_iff]; omega)
 omega
theorem perFrom_spec : ∀ (rs : List Rule) (y p : Int), 1 ≤ y → y ≤ 400 → perFrom y rs = some p → (1 ≤ p ∧ p ≤ 400) ∧ y ∣ p ∧ ∀ r ∈ rs, okRule r ∧ r.1 ∣ p
 | [], y, p, h1, h2, h => by
  simp only [perFrom, Option.some.injEq] at h; subst h
  exact ⟨⟨h1, h2⟩, Int.dvd_refl _, by simp⟩
 | r :: rs, y, p, h1, h2, h => by
  simp only [perFrom] at h
  split at h
  ·rename_i hr
   split at h
   ·rename_i hl
    obtain ⟨g1, g2, g3⟩ := perFrom_spec rs _ p (lcm_pos h1 hr.1) hl h
    refine ⟨g1, Int.dvd_trans (Int.dvd_lcm_left _ _) g2, ?_⟩
    intro r' hr'
    rcases List.mem_cons.1 hr' with rfl | hr'
    ·exact ⟨hr, Int.dvd_trans (Int.dvd_lcm_right _ _) g2⟩
    ·exact g3 r' hr'
   ·cases h
  ·cases h
theorem Cal.valid.per {c : Cal} (h : c.valid) : perFrom 1 c.rules = some c.per ∧ (1 ≤ c.per ∧ c.per ≤ 400) ∧ ∀ r ∈ c.rules, okRule r ∧ r.1 ∣ c.per := by
 obtain ⟨_, _, _, _, _, _, h⟩ := h
 obtain ⟨p, hp⟩ := Option.isSome_iff_exists.1 h
 have : c.per = p := by simp [Cal.per, hp]
 rw [this]
 obtain ⟨g1, _, g3⟩ := perFrom_spec _ _ _ (by omega) (by omega) hp
 exact ⟨hp, g1, g3⟩
theorem Cal.valid.mlen_bd {c : Cal} (h : c.valid) (y : Int) {m : Nat} (hm : m < c.months.length) : 1 ≤ c.mlen y m ∧ c.mlen y m ≤ 41 := by
 obtain ⟨_, _, _, _, _, h, _⟩ := h
 have := h c.months[m] (List.getElem_mem hm)
 unfold Cal.mlen
 rw [List.getD_eq_getElem?_getD, List.getElem?_eq_getElem hm, Option.getD_some]
 split <;> omega
theorem Cal.valid.ylen_bd {c : Cal} (h : c.valid) (y : Int) : c.months.length ≤ c.ylen y ∧ c.ylen y ≤ 656 := by
 have h1 := sumTo_bd (f := c.mlen y) (a := 1) (b := 41) c.months.length (fun i hi => h.mlen_bd y hi)
 have := h.2.1
 unfold Cal.ylen
 omega
theorem Cal.valid.S_bd {c : Cal} (h : c.valid) (n : Nat) : n ≤ c.S n ∧ c.S n ≤ 656 * n := by
 have h1 := sumTo_bd (f := fun i => c.ylen (i + 1)) (a := 1) (b := 656) n (fun i _ => by have := h.ylen_bd (i + 1); have := h.2.1; omega)
 unfold Cal.S
 omega
end Go.Proofs.YtdgndfabdmecmaaGreat
namespace Go.Proofs.YtdgndfabdmecmaaGreat
set_option linter.unusedSectionVars false
variable [Go.Proofs.YtdgndfabdmecmaaGreat.Vc.Drew]
open Go.Proofs.YtdgndfabdmecmaaGreat.Vc
structure Yr where
 month : Int
 week : Int
 wday : Int
 minute : Int
 off : Int
def Yr.cells (r : Yr) : List Value := [.int .i64 r.month, .int .i64 r.week, .int .i64 r.wday, .int .i64 r.minute, .int .i64 r.off]
structure YrOK (c : Cal) (r : Yr) : Prop where
 month : 1 ≤ r.month ∧ r.month ≤ c.months.length
 week : 1 ≤ r.week ∧ r.week ≤ 5
 wday : 0 ≤ r.wday ∧ r.wday ≤ 6
 minute : 0 ≤ r.minute ∧ r.minute ≤ 1439
 off : -1080 ≤ r.off ∧ r.off ≤ 1080
def ydB (c : Cal) (begin y : Int) (r : Yr) : Int := begin + sumTo (c.mlen y) (r.month - 1).toNat
def ydE (c : Cal) (begin y : Int) (r : Yr) : Int := ydB c begin y r + c.mlen y (r.month - 1).toNat
def ydA (c : Cal) (begin y : Int) (r : Yr) : Int × Bool :=
 if r.week = 5 then (ydE c begin y r - 1 - (ydE c begin y r - 1 - r.wday) % 7, decide (ydB c begin y r ≤ ydE c begin y r - 1 - (ydE c begin y r - 1 - r.wday) % 7))
 else (ydB c begin y r + (r.wday - ydB c begin y r) % 7 + 7 * (r.week - 1), decide (ydB c begin y r + (r.wday - ydB c begin y r) % 7 + 7 * (r.week - 1) < ydE c begin y r))
def yr1 (c : Cal) (begin y : Int) (r o : Yr) : List Tr := if (ydA c begin y r).2 = true then [⟨(ydA c begin y r).1 * 1440 + r.minute - o.off, r.off⟩] else []
def yrT (c : Cal) (r0 r1 : Yr) (begin y : Int) : List Tr := yr1 c begin y r0 r1 ++ yr1 c begin y r1 r0
def goY (c : Cal) (r0 r1 : Yr) (e : Int) : Nat → Int → Int → List Tr → List Tr
 | 0, _, _, out => out
 | f + 1, begin, y, out => if begin < e then goY c r0 r1 e f (begin + c.ylen y) (y + 1) (out ++ yrT c r0 r1 begin y) else out
theorem goY_stop (c : Cal) (r0 r1 : Yr) (e : Int) (f : Nat) {begin y : Int} {out : List Tr} (h : e ≤ begin) : goY c r0 r1 e f begin y out = out := by
 cases f with
 | zero => rfl
 | succ f => rw [goY, if_neg (by omega)]
theorem goY_step (c : Cal) (r0 r1 : Yr) (e : Int) (f : Nat) {begin y : Int} {out : List Tr} (h : begin < e) : goY c r0 r1 e (f + 1) begin y out = goY c r0 r1 e f (begin + c.ylen y) (y + 1) (out ++ yrT c r0 r1 begin y) := by
 rw [goY, if_pos h]
def cycD (c : Cal) : Int := if c.days % 7 = 0 then c.days else c.days * 7
def unsT (c : Cal) (r0 r1 : Yr) : List Tr := goY c r0 r1 (c.epoch + cycD c) (cycD c + 1).toNat c.epoch 1 []
def Sor (l : List Tr) : Prop := l.Pairwise fun a b => a.pos ≤ b.pos
def Far (l : List Tr) (cyc : Int) : Prop := ∀ i (h : i < l.length), 2160 ≤ (if h2 : i + 1 < l.length then l[i + 1].pos else l[0].pos + cyc * 1440) - l[i].pos
theorem Far.asc {l : List Tr} {cyc : Int} (h : Far l cyc) : Asc l := by
 unfold Asc
 rw [List.pairwise_iff_getElem]
 intro i j hi hj hij
 obtain ⟨d, rfl⟩ : ∃ d, j = i + 1 + d := ⟨j - i - 1, by omega⟩
 clear hij
 induction d with
 | zero =>
  have := h i hi
  rw [dif_pos (show i + 1 < l.length from hj)] at this
  simp only [Nat.add_zero]
  omega
 | succ d ih =>
  have h1 := ih (by omega)
  have := h (i + 1 + d) (by omega)
  rw [dif_pos (show i + 1 + d + 1 < l.length by omega)] at this
  simp only [show i + 1 + (d + 1) = i + 1 + d + 1 by omega]
  omega
theorem Asc.sor {l : List Tr} (h : Asc l) : Sor l := List.Pairwise.imp (fun h => by omega) h
theorem Asc.inj {l : List Tr} (h : Asc l) {a b : Tr} (ha : a ∈ l) (hb : b ∈ l) (e : a.pos = b.pos) : a = b := by
 obtain ⟨i, hi, rfl⟩ := List.mem_iff_getElem.1 ha
 obtain ⟨j, hj, rfl⟩ := List.mem_iff_getElem.1 hb
 rcases Nat.lt_trichotomy i j with hij | rfl | hij
 ·have := List.pairwise_iff_getElem.1 h i j hi hj hij; omega
 ·rfl
 ·have := List.pairwise_iff_getElem.1 h j i hj hi hij; omega
theorem sor_unique {l m : List Tr} (hl : Asc l) (hm : Sor m) (hp : m.Perm l) : m = l := by
 have hs := hl.sor
 unfold Sor at hm hs
 exact List.Perm.eq_of_pairwise (le := fun a b : Tr => a.pos ≤ b.pos) (fun a b ha hb h1 h2 => hl.inj (hp.mem_iff.1 ha) hb (by omega)) hm hs hp
instance (l : List Tr) (cyc : Int) : Decidable (Far l cyc) := by unfold Far; infer_instance
theorem cycD_bd {c : Cal} (h1 : 1 ≤ c.days ∧ c.days ≤ 262400) : 1 ≤ cycD c ∧ cycD c ≤ 1836800 := by
 unfold cycD
 split <;> omega
theorem mlen_bd {c : Cal} (h : c.valid) (y : Int) {i : Nat} (hi : i < c.months.length) : 1 ≤ c.mlen y i ∧ c.mlen y i ≤ 41 := by
 have h1 := h.2.2.2.2.2.1 c.months[i] (List.getElem_mem _)
 unfold Cal.mlen
 rw [List.getD_eq_getElem?_getD, List.getElem?_eq_getElem hi, Option.getD_some]
 split <;> omega
theorem yd_bd {c : Cal} (h : c.valid) (begin y : Int) {r : Yr} (hr : YrOK c r) : begin ≤ ydB c begin y r ∧ ydB c begin y r < ydE c begin y r ∧ ydE c begin y r ≤ begin + 656 := by
 have h16 := h.2.1.2
 have hm := hr.month
 have h1 := sumTo_bd (f := c.mlen y) (a := 1) (b := 41) (r.month - 1).toNat (fun i hi => mlen_bd h y (by omega))
 have h2 := mlen_bd h y (i := (r.month - 1).toNat) (by omega)
 unfold ydE ydB
 omega
theorem ydA_bd {c : Cal} (h : c.valid) (begin y : Int) {r : Yr} (hr : YrOK c r) : begin - 7 ≤ (ydA c begin y r).1 ∧ (ydA c begin y r).1 ≤ begin + 700 := by
 have h1 := yd_bd h begin y hr
 have h2 := hr.week
 unfold ydA
 split <;> dsimp only <;> omega
end Go.Proofs.YtdgndfabdmecmaaGreat
namespace Go.Proofs.YtdgndfabdmecmaaGreat
set_option linter.unusedSectionVars false
variable [Go.Proofs.YtdgndfabdmecmaaGreat.Vc.Drew]
open Go.Proofs.YtdgndfabdmecmaaGreat.Vc
structure RulesIn (R : RO) (sr : Value) (rs : List Rule) : Prop where
 sl : SlK R sr 3 (rs.map rcells)
 bd : ∀ r ∈ rs, I64 r.1 ∧ I64 r.2.1
 n : rs.length ≤ 140737488355328
theorem RulesIn.mono {R R' : RO} {sr : Value} {rs : List Rule} (h : RulesIn R sr rs) (hle : RO.le R R') : RulesIn R' sr rs := ⟨h.sl.mono hle, h.bd, h.n⟩
theorem RulesIn.form {R : RO} {sr : Value} {rs : List Rule} (h : RulesIn R sr rs) : ∃ a cap, sr = .slice a rs.length cap ∧ rs.length ≤ cap ∧ ∀ i (hi : i < rs.length), ∃ ad, a = some ad ∧
  (∀ j v, (rcells rs[i])[j]? = some v → R ((ad.add (i * 3)).add j) v) := by
 obtain ⟨a, cap, e, hc, h⟩ := h.sl
 rw [List.length_map] at e hc
 refine ⟨a, cap, e, hc, fun i hi => ?_⟩
 obtain ⟨_, ad, e, hr⟩ := h i (rcells rs[i]) (by simp [hi])
 exact ⟨ad, e, hr⟩
structure MonthsIn (R : RO) (sm : Value) (ms : List Int) : Prop where
 sl : Ints R sm ms
 bd : ∀ m ∈ ms, I64 m
 n : ms.length ≤ 140737488355328
theorem MonthsIn.mono {R R' : RO} {sm : Value} {ms : List Int} (h : MonthsIn R sm ms) (hle : RO.le R R') : MonthsIn R' sm ms := ⟨h.sl.mono hle, h.bd, h.n⟩
structure CalIn (R : RO) (c : Cal) (sm sr : Value) : Prop where
 m : MonthsIn R sm c.months
 r : RulesIn R sr c.rules
 e : I64 c.epoch
 l : I64 c.leap
theorem CalIn.mono {R R' : RO} {c : Cal} {sm sr : Value} (h : CalIn R c sm sr) (hle : RO.le R R') : CalIn R' c sm sr := ⟨h.m.mono hle, h.r.mono hle, h.e, h.l⟩
theorem cmod (a b : Int) (hb2 : I64 b) (ha : I64 a) (R : RO) :
  CallsR Tryz.prog 198 [.int .i64 a, .int .i64 b] R fun _ v => v = .int .i64 (if b < 1 then 0 else a % b) := by
 refine callsT mix Tryz.func198 comp198 (by simp [Tryz.ntmps198]) ?_; simp only [go_sem, ↓reduceIte, Qa, Qb, Qc, Qd, Qe, Qf, reduceCtorEq, vc198, rs198]
 refine vcall (nMod a b hb2 ha R) ?_
 rintro R' v hle rfl
 try simp only [go_sem, ↓reduceIte, Qa, Qb, Qc, Qd, Qe, Qf, reduceCtorEq]
theorem cWeekday (a : Int) (ha : I64 a) (R : RO) : CallsR Tryz.prog 188 [.int .i64 a] R fun _ v => v = .int .i64 (a % 7) := by
 refine callsT mix Tryz.func188 comp188 (by simp [Tryz.ntmps188]) ?_; simp only [go_sem, ↓reduceIte, Qa, Qb, Qc, Qd, Qe, Qf, reduceCtorEq, vc188, rs188]
 refine vcall (cmod a 7 (by unfold I64; omega) ha R) ?_
 rintro R' v hle rfl
 try simp only [go_sem, ↓reduceIte, Qa, Qb, Qc, Qd, Qe, Qf, reduceCtorEq]
 simp
theorem cPeriod (rs : List Rule) (sr : Value) (R : RO) (h : RulesIn R sr rs) :
  CallsR Tryz.prog 154 [sr] R fun _ v => v = .tuple #[.int .i64 ((perFrom 1 rs).getD 0), .bool (perFrom 1 rs).isSome] := by
 obtain ⟨a, cap, rfl, hc, hf⟩ := h.form
 have hn := h.n
 refine callsT mix Tryz.func154 comp154 (by simp [Tryz.ntmps154]) ?_; simp only [go_sem, ↓reduceIte, Qa, Qb, Qc, Qd, Qe, Qf, reduceCtorEq, vc154, rs154]
 refine vcLoop (Nat × Int) (fun x => [(9, .val (.slice a rs.length cap)), (10, .val (.int .i64 rs.length)), (11, .val (.int .i64 x.1)), (4, .val (.int .i64 x.2))]) (fun _ => [])
  (fun x _ => x.1 ≤ rs.length ∧ 1 ≤ x.2 ∧ x.2 ≤ 400 ∧ perFrom 1 rs = perFrom x.2 (rs.drop x.1)) (fun x => rs.length - x.1) (0, 1) ?_ rfl ?_ ?_
 ·(try simp only [go_sem, ↓reduceIte, Qa, Qb, Qc, Qd, Qe, Qf, reduceCtorEq]) <;> (repeat' (first | rfl | trivial | constructor | (intro h; exact absurd rfl h)))
 ·exact ⟨by omega, by omega, by omega, rfl⟩
 ·rintro ⟨k, y⟩ env R1 hle hv ⟨hk, hy1, hy2, hp⟩
  (simp only [go_sem] at hv; obtain ⟨e9, e10, e11, e4⟩ := hv; simp only [go_sem, ↓reduceIte, Qa, Qb, Qc, Qd, Qe, Qf, reduceCtorEq, e9, e10, e11, e4]; dsimp only at *)
  refine ⟨fun hlt => ⟨hlt, ?_⟩, fun hge => ?_⟩
  ·have hlt' : k < rs.length := by omega
   obtain ⟨ad, rfl, hR⟩ := hf k hlt'
   have hbd := h.bd rs[k] (List.getElem_mem hlt')
   have hdrop : rs.drop k = rs[k] :: rs.drop (k + 1) := by simp
   rw [hdrop] at hp
   generalize hr : rs[k] = r at *
   obtain ⟨ev, rest, yes⟩ := r
   dsimp only at *
   simp only [perFrom] at hp
   simp only [go_sem, ↓reduceIte, Qa, Qb, Qc, Qd, Qe, Qf, reduceCtorEq, e4]
   refine vloadn (rcells (ev, rest, yes)) rfl (fun j v hj => hle _ _ (hR j v hj)) ?_
   simp only [go_sem, ↓reduceIte, Qa, Qb, Qc, Qd, Qe, Qf, reduceCtorEq, rcells, e4, e10, e11]
   have bad : ¬ okRule (ev, rest, yes) → Value.tuple #[Value.int .i64 0, Value.bool false] = Value.tuple #[Value.int .i64 ((perFrom 1 rs).getD 0), Value.bool (perFrom 1 rs).isSome] := by
    intro h; rw [hp, if_neg h]; rfl
   simp only [okRule] at bad
   refine ⟨fun h1 => ⟨fun h2 => ⟨fun h3 => ⟨fun h4 => bad (by omega), fun h4 => ?_⟩, fun h3 => bad (by omega)⟩, fun h2 => bad (by omega)⟩, fun h1 => bad (by omega)⟩
   refine vcall (nLcm y ev (by unfold I64; omega) hbd.1 R1) ?_
   rintro R2 v hle2 rfl
   simp only [go_sem, ↓reduceIte, Qa, Qb, Qc, Qd, Qe, Qf, reduceCtorEq, e10, e11]
   have hok : okRule (ev, rest, yes) := by simp only [okRule]; omega
   rw [if_pos hok] at hp
   have hl := lcm_pos hy1 (show 1 ≤ ev by omega)
   have hE : lcmE y ev = if 1099511627776 < (Int.lcm y ev : Int) then 2 else 0 := by simp only [lcmE]; rw [if_neg (by omega)]
   have big : 400 < (Int.lcm y ev : Int) → Value.tuple #[Value.int .i64 0, Value.bool false] = Value.tuple #[Value.int .i64 ((perFrom 1 rs).getD 0), Value.bool (perFrom 1 rs).isSome] := by
    intro h; rw [hp, if_neg (by omega)]; rfl
   have hV : lcmE y ev = 0 → lcmV y ev = Int.lcm y ev := fun h => by simp only [lcmV, h, if_true]
   refine ⟨fun h5 => ?_, fun h5 => ?_⟩
   ·rw [hV h5]
    refine ⟨fun h6 => big (by omega), fun h6 => ?_⟩
    rw [if_pos (by omega)] at hp
    exact ⟨_, W.in64 (by omega), (k + 1, (Int.lcm y ev : Int)), by dsimp only; omega, ⟨e9, rfl, rfl⟩, by dsimp only; omega, by dsimp only; omega, by dsimp only; omega, by dsimp only; exact hp⟩
   ·refine big ?_
    rw [hE] at h5; split at h5 <;> omega
  ·have : rs.drop k = [] := List.drop_eq_nil_of_le (by omega)
   rw [this] at hp
   simp only [perFrom] at hp
   rw [hp]
   rfl
theorem MonthsIn.form {R : RO} {sm : Value} {ms : List Int} (h : MonthsIn R sm ms) : ∃ a cap, sm = .slice a ms.length cap ∧ ms.length ≤ cap ∧ ∀ i (hi : i < ms.length), ∃ ad, a = some ad ∧ R (ad.add i) (.int .i64 ms[i]) := h.sl.form
abbrev cv (c : Cal) (sm sr : Value) : Value := .agg #[.int .i64 c.epoch, sm, .int .i64 c.leap, sr]
theorem cValid (c : Cal) (sm sr : Value) (R : RO) (h : CalIn R c sm sr) : CallsR Tryz.prog 106 [cv c sm sr] R fun _ v => v = .bool (decide c.valid) := by
 obtain ⟨am, cm, rfl, hcm, hfm⟩ := h.m.form
 obtain ⟨ar, cr, rfl, hcr, hfr⟩ := h.r.form
 have hnm := h.m.n
 have hnr := h.r.n
 have bad : ¬ c.valid → Value.bool false = Value.bool (decide c.valid) := fun h => by simp [h]
 have badI : ∀ (p : Prop) [Decidable p], (c.valid → p) → ¬ p → Value.bool false = Value.bool (decide c.valid) := fun p _ h1 h2 => bad fun h => h2 (h1 h)
 refine callsT mix Tryz.func106 comp106 (by simp [Tryz.ntmps106]) ?_; simp only [go_sem, ↓reduceIte, Qa, Qb, Qc, Qd, Qe, Qf, reduceCtorEq, vc106, rs106]
 repeat' (with_reducible first | refine And.intro ?_ ?_ | intro _)
 all_goals first
  | exact bad (by simp only [Cal.valid]; omega)
  | exact bad (fun h => by have h1 := congrArg List.length (h.2.2.2.2.1 (by assumption)); rw [List.length_nil] at h1; omega)
  | skip
 all_goals
  refine vcLoop Nat (fun k => [(50, .val (.slice am c.months.length cm)), (51, .val (.int .i64 c.months.length)), (52, .val (.int .i64 k)), (1, .loc 0 0)])
   (fun _ => [.box [.val (.int .i64 c.epoch), .val (.slice am c.months.length cm), .val (.int .i64 c.leap), .val (.slice ar c.rules.length cr)]])
   (fun k _ => k ≤ c.months.length ∧ ∀ i (hi : i < c.months.length), i < k → 1 ≤ c.months[i] ∧ c.months[i] ≤ 40) (fun k => c.months.length - k) 0 ?_ rfl ?_ ?_
  ·(try simp only [go_sem, ↓reduceIte, Qa, Qb, Qc, Qd, Qe, Qf, reduceCtorEq]) <;> (repeat' (first | rfl | trivial | constructor | (intro h; exact absurd rfl h)))
  ·exact ⟨by omega, fun i hi h => by omega⟩
  ·rintro k env R1 hle hv ⟨hk, hall⟩
   (simp only [go_sem] at hv; obtain ⟨e50, e51, e52, e1⟩ := hv; simp only [go_sem, ↓reduceIte, Qa, Qb, Qc, Qd, Qe, Qf, reduceCtorEq, e50, e51, e52, e1]; dsimp only at *)
   refine ⟨fun hlt => ⟨hlt, ?_⟩, fun hge => ?_⟩
   ·have hlt' : k < c.months.length := by omega
    obtain ⟨ad, had, hR⟩ := hfm k hlt'
    have hin := List.getElem_mem hlt'
    refine vat ad had ?_
    try simp only [go_sem, ↓reduceIte, Qa, Qb, Qc, Qd, Qe, Qf, reduceCtorEq]
    refine vload _ (hle _ _ hR) ?_
    simp only [go_sem, ↓reduceIte, Qa, Qb, Qc, Qd, Qe, Qf, reduceCtorEq, e50, e51, e52, e1]
    refine ⟨fun h1 => ⟨fun h2 => bad (fun h => ?_), fun h2 => ?_⟩, fun h1 => bad (fun h => ?_)⟩
    ·have := h.2.2.2.2.2.1 _ hin; omega
    ·refine ⟨_, W.in64 (by omega), k + 1, by omega, rfl, by omega, fun i hi hik => ?_⟩
     by_cases hik' : i = k
     ·subst hik'; omega
     ·exact hall i hi (by omega)
    ·have := h.2.2.2.2.2.1 _ hin; omega
   ·refine vcall (cPeriod c.rules _ R1 (h.r.mono hle)) ?_
    rintro R2 v hle2 rfl
    try simp only [go_sem, ↓reduceIte, Qa, Qb, Qc, Qd, Qe, Qf, reduceCtorEq]
    congr 1
    have hv : c.valid ↔ (perFrom 1 c.rules).isSome = true := by
     refine ⟨fun h => h.2.2.2.2.2.2, fun h => ⟨by omega, by omega, by omega, by omega, fun h1 => ?_, fun m hm => ?_, h⟩⟩
     ·first
       | exact absurd h1 (by assumption)
       | exact List.eq_nil_of_length_eq_zero (by omega)
     ·obtain ⟨i, hi, rfl⟩ := List.getElem_of_mem hm
      exact hall i hi (by omega)
    simp [hv]
theorem rMod (a b : Int) (hb : 1 ≤ b) (hb2 : I64 b) (ha : I64 a) (R : RO) : CallsR Tryz.prog 171 [.int .i64 a, .int .i64 b] R fun _ v => v = .int .i64 (a % b) := by
 refine callsT mix Tryz.func171 comp171 (by simp [Tryz.ntmps171]) ?_; simp only [go_sem, ↓reduceIte, Qa, Qb, Qc, Qd, Qe, Qf, reduceCtorEq, vc171, rs171]
 have h1 := tmod_fix a b hb
 have h2 := tmod_bd a b hb
 unfold I64 at *
 refine ⟨by omega, fun h => ⟨_, W.in64 (by omega), ?_⟩, fun h => ?_⟩
 ·rw [if_pos h] at h1; rw [h1]
 ·rw [if_neg h] at h1; rw [h1]
theorem rGcd (a b : Int) (ha : 1 ≤ a) (hb : 1 ≤ b) (ha2 : I64 a) (hb2 : I64 b) (R : RO) : CallsR Tryz.prog 88 [.int .i64 a, .int .i64 b] R fun _ v => v = .int .i64 (Int.gcd a b) := by
 refine callsT mix Tryz.func88 comp88 (by simp [Tryz.ntmps88]) ?_; simp only [go_sem, ↓reduceIte, Qa, Qb, Qc, Qd, Qe, Qf, reduceCtorEq, vc88, rs88]
 unfold I64 at *
 refine vcLoop (Nat × Nat) (fun x => [(0, .val (.int .i64 x.1)), (1, .val (.int .i64 x.2))]) (fun _ => []) (fun x _ => Nat.gcd x.1 x.2 = Int.gcd a b ∧ x.1 ≤ 9223372036854775807 ∧ x.2 ≤ 9223372036854775807) (fun x => x.2) (a.natAbs, b.natAbs) ?_ rfl ?_ ?_
 ·(try simp only [go_sem, ↓reduceIte, Qa, Qb, Qc, Qd, Qe, Qf, reduceCtorEq]) <;> (repeat' (first | rfl | trivial | constructor | (intro h; exact absurd rfl h)))
  ·have : ((a.natAbs : Nat) : Int) = a := by omega
   rw [this]
  ·have : ((b.natAbs : Nat) : Int) = b := by omega
   rw [this]
 ·exact ⟨rfl, by omega, by omega⟩
 ·rintro ⟨x, y⟩ env R' hle hv ⟨hg, hx, hy⟩
  (simp only [go_sem] at hv; obtain ⟨e0, e1⟩ := hv; simp only [go_sem, ↓reduceIte, Qa, Qb, Qc, Qd, Qe, Qf, reduceCtorEq, e0, e1]; dsimp only at *)
  refine ⟨fun h => ⟨h, (y, x % y), Nat.mod_lt _ (by omega), ⟨rfl, ?_⟩, ?_, by dsimp only; omega, ?_⟩, fun h => ?_⟩
  ·rw [tmod_nonneg' (by omega)]; rfl
  ·rw [← hg]; simp only; rw [Nat.gcd_comm y, ← Nat.gcd_rec, Nat.gcd_comm]
  ·have := Nat.mod_lt x (show 0 < y by omega); simp only; omega
  ·have hy0 : y = 0 := by omega
   subst hy0
   rw [Nat.gcd_zero_right] at hg
   rw [hg]
theorem rlcm {y e : Int} (hy : 1 ≤ y) (he : 1 ≤ e) : y.tdiv (Int.gcd y e) * e = Int.lcm y e := by
 have hg := gcd_le_left (a := y) e hy
 rw [tdiv_nonneg' (by omega) (by omega), ← lcm_eq hy he]
theorem rValid (c : Cal) (sm sr : Value) (R : RO) (h : CalIn R c sm sr) : CallsR Tryz.prog 50 [cv c sm sr] R fun _ v => v = .bool (decide c.valid) := by
 obtain ⟨am, cm, rfl, hcm, hfm⟩ := h.m.form
 obtain ⟨ar, cr, rfl, hcr, hfr⟩ := h.r.form
 have hnm := h.m.n
 have hnr := h.r.n
 have bad : ¬ c.valid → Value.bool false = Value.bool (decide c.valid) := fun h => by simp [h]
 refine callsT mix Tryz.func50 comp50 (by simp [Tryz.ntmps50]) ?_; simp only [go_sem, ↓reduceIte, Qa, Qb, Qc, Qd, Qe, Qf, reduceCtorEq, vc50, rs50]
 repeat' (with_reducible first | refine And.intro ?_ ?_ | intro _)
 all_goals first
  | exact bad (by simp only [Cal.valid]; omega)
  | exact bad (fun h => by have h1 := congrArg List.length (h.2.2.2.2.1 (by assumption)); rw [List.length_nil] at h1; omega)
  | skip
 all_goals
  refine vcLoop Nat (fun k => [(3, .val (.int .i64 k)), (1, .loc 0 0)])
   (fun _ => [.box [.val (.int .i64 c.epoch), .val (.slice am c.months.length cm), .val (.int .i64 c.leap), .val (.slice ar c.rules.length cr)]])
   (fun k _ => k ≤ c.months.length ∧ ∀ i (hi : i < c.months.length), i < k → 1 ≤ c.months[i] ∧ c.months[i] ≤ 40) (fun k => c.months.length - k) 0 ?_ rfl ?_ ?_
  ·(try simp only [go_sem, ↓reduceIte, Qa, Qb, Qc, Qd, Qe, Qf, reduceCtorEq]) <;> (repeat' (first | rfl | trivial | constructor | (intro h; exact absurd rfl h)))
  ·exact ⟨by omega, fun i hi h => by omega⟩
  ·rintro k env R1 hle hv ⟨hk, hall⟩
   (simp only [go_sem] at hv; obtain ⟨e3, e1⟩ := hv; simp only [go_sem, ↓reduceIte, Qa, Qb, Qc, Qd, Qe, Qf, reduceCtorEq, e3, e1]; dsimp only at *)
   refine ⟨fun hlt => ⟨hlt, ?_⟩, fun hge => ?_⟩
   ·have hlt' : k < c.months.length := by omega
    obtain ⟨ad, had, hR⟩ := hfm k hlt'
    have hin := List.getElem_mem hlt'
    refine vat ad had ?_
    try simp only [go_sem, ↓reduceIte, Qa, Qb, Qc, Qd, Qe, Qf, reduceCtorEq]
    refine vload _ (hle _ _ hR) ?_
    simp only [go_sem, ↓reduceIte, Qa, Qb, Qc, Qd, Qe, Qf, reduceCtorEq, e3, e1]
    refine ⟨fun h1 => ⟨hlt, ?_⟩, fun h1 => bad (fun h => ?_)⟩
    ·refine vat ad had ?_
     try simp only [go_sem, ↓reduceIte, Qa, Qb, Qc, Qd, Qe, Qf, reduceCtorEq]
     refine vload _ (hle _ _ hR) ?_
     simp only [go_sem, ↓reduceIte, Qa, Qb, Qc, Qd, Qe, Qf, reduceCtorEq, e3, e1]
     refine ⟨fun h2 => bad (fun h => ?_), fun h2 => ?_⟩
     ·have := h.2.2.2.2.2.1 _ hin; omega
     ·refine ⟨_, W.in64 (by omega), k + 1, by omega, rfl, by omega, fun i hi hik => ?_⟩
      by_cases hik' : i = k
      ·subst hik'; omega
      ·exact hall i hi (by omega)
    ·have := h.2.2.2.2.2.1 _ hin; omega
   ·refine vcLoop (Nat × Int) (fun x => [(5, .val (.int .i64 x.1)), (4, .val (.int .i64 x.2)), (1, .loc 0 0)])
     (fun _ => [.box [.val (.int .i64 c.epoch), .val (.slice am c.months.length cm), .val (.int .i64 c.leap), .val (.slice ar c.rules.length cr)]])
     (fun x _ => x.1 ≤ c.rules.length ∧ 1 ≤ x.2 ∧ x.2 ≤ 400 ∧ perFrom 1 c.rules = perFrom x.2 (c.rules.drop x.1)) (fun x => c.rules.length - x.1) (0, 1) ?_ rfl ?_ ?_
    ·simp only [go_sem, ↓reduceIte, Qa, Qb, Qc, Qd, Qe, Qf, reduceCtorEq, e1]
     rfl
    ·exact ⟨by omega, by omega, by omega, rfl⟩
    ·rintro ⟨k2, y⟩ env2 R2 hle2 hv ⟨hk2, hy1, hy2, hp⟩
     (simp only [go_sem] at hv; obtain ⟨f5, f4, f1⟩ := hv; simp only [go_sem, ↓reduceIte, Qa, Qb, Qc, Qd, Qe, Qf, reduceCtorEq, f5, f4, f1]; dsimp only at *)
     have hge2 : ∀ p : Prop, (c.valid ↔ p) → ((c.valid ↔ (perFrom 1 c.rules).isSome = true)) := fun p _ => by
      refine ⟨fun h => h.2.2.2.2.2.2, fun h => ⟨by omega, by omega, by omega, by omega, fun h1 => ?_, fun m hm => ?_, h⟩⟩
      ·first
        | exact absurd h1 (by assumption)
        | exact List.eq_nil_of_length_eq_zero (by omega)
      ·obtain ⟨i, hi, rfl⟩ := List.getElem_of_mem hm
       exact hall i hi (by omega)
     have hvv := hge2 _ Iff.rfl
     clear hge2
     have bad' : perFrom 1 c.rules = none → Value.bool false = Value.bool (decide c.valid) := fun h => bad (fun hv => by rw [hvv, h] at hv; cases hv)
     refine ⟨fun hlt2 => ⟨hlt2, ?_⟩, fun hge2 => ?_⟩
     ·have hlt2' : k2 < c.rules.length := by omega
      obtain ⟨ad, had, hR⟩ := hfr k2 hlt2'
      have hbd := h.r.bd c.rules[k2] (List.getElem_mem hlt2')
      have hdrop : c.rules.drop k2 = c.rules[k2] :: c.rules.drop (k2 + 1) := by simp
      rw [hdrop] at hp
      generalize hr : c.rules[k2] = r at *
      obtain ⟨ev, rest, yes⟩ := r
      dsimp only at hbd
      simp only [perFrom] at hp
      refine vat ad had ?_
      try simp only [go_sem, ↓reduceIte, Qa, Qb, Qc, Qd, Qe, Qf, reduceCtorEq]
      refine vloadn (rcells (ev, rest, yes)) rfl (fun j v hj => hle2 _ _ (hle _ _ (hR j v hj))) ?_
      simp only [go_sem, ↓reduceIte, Qa, Qb, Qc, Qd, Qe, Qf, reduceCtorEq, rcells, f5, f4, f1]
      have bad2 : ¬ (1 ≤ ev ∧ ev ≤ 400 ∧ 0 ≤ rest ∧ rest < ev) → Value.bool false = Value.bool (decide c.valid) := by
       intro h; refine bad' ?_; rw [hp, if_neg]; exact h
      refine ⟨fun h1 => ⟨fun h2 => ⟨fun h3 => ⟨fun h4 => bad2 (by omega), fun h4 => ?_⟩, fun h3 => bad2 (by omega)⟩, fun h2 => bad2 (by omega)⟩, fun h1 => bad2 (by omega)⟩
      refine vcall (rGcd y ev hy1 (by omega) (by unfold I64; omega) hbd.1 R2) ?_
      rintro R3 v hle3 rfl
      simp only [go_sem, ↓reduceIte, Qa, Qb, Qc, Qd, Qe, Qf, reduceCtorEq, f5, f4, f1]
      have hok : okRule (ev, rest, yes) := ⟨by dsimp only; omega, by dsimp only; omega, by dsimp only; omega, by dsimp only; omega⟩
      rw [if_pos hok] at hp
      have hg := gcd_le_left (a := y) ev hy1
      have hl := lcm_pos hy1 (show 1 ≤ ev by omega)
      have hm := rlcm hy1 (show 1 ≤ ev by omega)
      have hd := tdiv_bd y (Int.gcd y ev) hg.1
      have hlub : (Int.lcm y ev : Int) ≤ 160000 := by
       rw [← hm]
       have h8 : y.tdiv (Int.gcd y ev) * ev ≤ 400 * ev := Int.mul_le_mul_of_nonneg_right (by omega) (by omega)
       omega
      refine ⟨by omega, _, W.in64 (by omega), ?_⟩
      rw [hm]
      refine ⟨_, W.in64 (by omega), fun h5 => ?_, fun h5 => ?_⟩
      ·refine bad' ?_
       rw [hp, if_neg (by omega)]
      ·rw [if_pos (by omega)] at hp
       exact ⟨_, W.in64 (by omega), (k2 + 1, (Int.lcm y ev : Int)), by dsimp only; omega, ⟨rfl, rfl⟩, by dsimp only; omega, by dsimp only; omega, by dsimp only; omega, by dsimp only; exact hp⟩
     ·have : c.rules.drop k2 = [] := List.drop_eq_nil_of_le (by omega)
      rw [this] at hp
      simp only [perFrom] at hp
      have : c.valid := by rw [hvv, hp]; rfl
      simp [this]
end Go.Proofs.YtdgndfabdmecmaaGreat
namespace Go.Proofs.YtdgndfabdmecmaaGreat
instance drew0 : Go.Proofs.YtdgndfabdmecmaaGreat.Vc.Drew := ⟨0⟩
open Go.RowKit Go.Shelf Go.Proofs.YtdgndfabdmecmaaGreat.Vc
attribute [local go_sem] Oper.semAt_some
def rv (r : Rule) : Value := .agg #[.int .i64 r.1, .int .i64 r.2.1, .bool r.2.2]
def fromEnd (zs : List Rule) (k : Nat) : Int × Rule := ((zs.length - 1 - k : Int), zs[zs.length - 1 - k]?.getD (0, 0, false))
def upto {α : Type} (f : Nat → α) (k : Nat) : List α := (List.range k).map f
theorem upto_succ {α : Type} (f : Nat → α) (k : Nat) : upto f (k + 1) = upto f k ++ [f k] := by simp [upto, List.range_succ]
theorem upto_length {α : Type} (f : Nat → α) (k : Nat) : (upto f k).length = k := by simp [upto]
set_option maxRecDepth 100000 in
set_option maxHeartbeats 2000000 in
theorem back1_in (F : Fence) (n : Nat) (hf : F.fn 216) (hro : F.round = none) (hn : 1 ≤ n) (l Bs n₀ b off cap : Nat) (zs : List Rule) (hreach : zs.length * 24 ≤ 140737488351232) (hb : zs ≠ [] → b < n₀) (hBn : Bs < n₀) (a : Option Addr) (ha : zs ≠ [] → a = some ⟨b, off, none⟩)
  (J Jx : List (Int × Rule) → World → Prop)
  (hY : ∀ pre x W, J pre W → pre.length < zs.length → YieldAt F (n - 1) Tryz.prog l #[.int .i64 x.1, rv x.2] W fun e W' =>
   (e = .returned (.bool true) ∧ J (pre ++ [x]) W' ∧ Below n₀ W W') ∨ (e = .returned (.bool false) ∧ Jx (pre ++ [x]) W'))
  (W : World) (hBs : W.cell? ⟨Bs, 0, none⟩ = some (.slice a zs.length cap)) (hc : ∀ j, j < zs.length → ∀ i, i < 3 → W.cell? ⟨b, off + j * 3 + i, none⟩ = (rcells (zs[j]?.getD (0, 0, false)))[i]?) (h0 : J [] W) :
  CallsIn F n Tryz.prog 216 #[.func (.yield l) #[] #[], .pointer (some ⟨Bs, 0, none⟩)] W fun e W' => (∃ v, e = .returned v) ∧
   ((∃ ys, ys = upto (fromEnd zs) zs.length ∧ J ys W') ∨ (∃ pre, (∃ k, k ≤ zs.length ∧ pre = upto (fromEnd zs) k) ∧ Jx pre W')) := by
 refine callsIn_of_wp Tryz.func216 rfl hf ?_ hro
 simp only [Tryz.ntmps216, List.size_toArray, List.length_cons, List.length_nil, Nat.reduceAdd, Nat.reduceSub, Array.replicate_succ, Array.replicate_zero, List.push_toArray, List.append_toArray, List.nil_append, List.cons_append]
 gi_wp2
 gi_loopw [3] (fun i wr => ∃ k : Nat, k ≤ zs.length ∧ i = .int .i64 (zs.length - 1 - k : Int) ∧ J (upto (fromEnd zs) k) wr ∧ Below n₀ W wr)
  (fun i _ => (intOf i + 1).toNat)
 case atStart => exact ⟨0, Nat.zero_le _, by simp, h0, Below.refl _ _⟩
 case round =>
  obtain ⟨k, hk, rfl, hJs, hnx⟩ := hrel
  have hB := (hnx.cell (p := ⟨Bs, 0, none⟩) hBn).trans hBs
  by_cases hlt : k < zs.length
  ·have hne : zs ≠ [] := by rintro rfl; simp at hlt
   have hj : zs.length - 1 - k < zs.length := by omega
   obtain rfl := ha hne
   have hcx : ∀ i, i < 3 → wr.cell? ⟨b, off + (zs.length - 1 - k) * 3 + i, none⟩ = (rcells (zs[zs.length - 1 - k]?.getD (0, 0, false)))[i]? := fun i hi => (hnx.cell (p := ⟨b, off + (zs.length - 1 - k) * 3 + i, none⟩) (hb hne)).trans (hc _ hj i hi)
   have hc0 := hcx 0 (by omega)
   have hc1 := hcx 1 (by omega)
   have hc2 := hcx 2 (by omega)
   obtain ⟨fn, tmps, assign, body, hy, hR⟩ := hY _ (fromEnd zs k) wr hJs (by rw [upto_length]; exact hlt)
   simp only [fromEnd, rv] at hy
   simp only [rcells, List.getElem?_cons_zero, List.getElem?_cons_succ, Nat.add_zero] at hc0 hc1 hc2
   generalize zs[zs.length - 1 - k]?.getD (0, 0, false) = r at hy hc0 hc1 hc2
   obtain ⟨ev, rest, yes⟩ := r
   dsimp only at hy hc0 hc1 hc2
   clear hcx
   gi_wp2
   refine hR.mono ?_
   rintro e W3 (⟨rfl, hJ3, hk3⟩ | ⟨rfl, hJx3⟩)
   ·gi_wp2
    go_roundw
    case rel => exact ⟨k + 1, by omega, by congr 1; omega, by rw [upto_succ]; exact hJ3, hnx.trans hk3⟩
    case measure => simp [intOf]; omega
   ·gi_wp2
    refine bodyPost_ret (results_none rfl _ _ _) rfl ?_
    exact ⟨⟨_, rfl⟩, .inr ⟨_, ⟨k + 1, by omega, (upto_succ _ _).symm⟩, hJx3⟩⟩
  ·obtain rfl : k = zs.length := by omega
   gi_wp2
   go_end0
   exact ⟨⟨_, rfl⟩, .inl ⟨_, rfl, hJs⟩⟩
set_option maxHeartbeats 1000000 in
theorem back_in (F : Fence) (n : Nat) (hf : F.fn 213) (hro : F.round = none) (a : Option Addr) (len cap : Nat) (w : World) :
  CallsIn F n Tryz.prog 213 #[.slice a len cap] w fun e w' => e = .returned (.func (.func 216) #[] #[.pointer (some ⟨w.heap.size, 0, none⟩)]) ∧ w' = w.alloc (.cells #[.slice a len cap] 37) := by
 refine callsIn_of_wp Tryz.func213 rfl hf ?_ hro
 simp only [Tryz.ntmps213, List.size_toArray, List.length_cons, List.length_nil, Nat.reduceAdd, Nat.reduceSub, Array.replicate_succ, Array.replicate_zero, List.push_toArray, List.append_toArray, List.nil_append, List.cons_append]
 gi_wp2
 go_ret
 exact ⟨rfl, rfl⟩
theorem back_stops (F : Fence) (n : Nat) (hf : F.fn 216) (hro : F.round = none) (hn : 1 ≤ n) (Bs n₀ b off cap : Nat) (zs : List Rule) (hreach : zs.length * 24 ≤ 140737488351232) (w : World) (hn₀ : n₀ ≤ w.heap.size) (hb : zs ≠ [] → b < n₀) (hBn : Bs < n₀)
  (a : Option Addr) (ha : zs ≠ [] → a = some ⟨b, off, none⟩) (hBs : w.cell? ⟨Bs, 0, none⟩ = some (.slice a zs.length cap)) (hc : ∀ j, j < zs.length → ∀ i, i < 3 → w.cell? ⟨b, off + j * 3 + i, none⟩ = (rcells (zs[j]?.getD (0, 0, false)))[i]?) :
  SeqStopsK F n Tryz.prog 216 #[.pointer (some ⟨Bs, 0, none⟩)] (fun x : Int × Rule => #[Value.int .i64 x.1, rv x.2]) (Below n₀) (fun ys => ys = upto (fromEnd zs) zs.length)
   (fun pre => ∃ k, k ≤ zs.length ∧ pre = upto (fromEnd zs) k) zs.length w := fun l J Jx W hW _ _ hY h0 =>
 back1_in F n hf hro hn l Bs n₀ b off cap zs hreach hb hBn a ha J Jx hY W ((hW.cell (p := ⟨Bs, 0, none⟩) (Nat.lt_of_lt_of_le hBn hn₀)).trans hBs)
  (fun j hj i hi => (hW.cell (p := ⟨b, off + j * 3 + i, none⟩) (Nat.lt_of_lt_of_le (hb (by rintro rfl; simp at hj)) hn₀)).trans (hc j hj i hi)) h0
def modv (a b : Int) : Int := if b < 1 then 0 else if a.tmod b < 0 then IntKind.i64.wrap (a.tmod b + b) else a.tmod b
theorem modv_eq {a b : Int} (hb : 1 ≤ b) (hb2 : I64 b) : modv a b = a % b := by
 have h1 := tmod_fix a b hb
 have h2 := tmod_bd a b hb
 unfold I64 at *
 unfold modv
 rw [if_neg (by omega)]
 split
 ·rename_i h
  rw [if_pos h] at h1
  have := W.in64 (r := a.tmod b + b) (by omega)
  unfold W at this
  rw [← this, h1]
 ·rename_i h
  rw [if_neg h] at h1; exact h1
theorem nmodw (a b : Int) (hb : 1 ≤ b) (R : RO) : CallsR Tryz.prog 214 [.int .i64 a, .int .i64 b] R fun _ v => v = .int .i64 (modv a b) := by
 refine callsT mix Tryz.func214 comp214 (by simp [Tryz.ntmps214]) ?_; simp only [go_sem, ↓reduceIte, Qa, Qb, Qc, Qd, Qe, Qf, reduceCtorEq, vc214, rs214]
 unfold modv
 rw [if_neg (by omega)]
 refine ⟨by omega, fun h => ⟨_, W.mk _ _, by rw [if_pos h]⟩, fun h => by rw [if_neg h]⟩
theorem cmodw (a b : Int) (R : RO) : CallsR Tryz.prog 198 [.int .i64 a, .int .i64 b] R fun _ v => v = .int .i64 (modv a b) := by
 have hM : CallsR Tryz.prog 209 [.int .i64 a, .int .i64 b] R fun _ v => ∃ e, v = .tuple #[.int .i64 (modv a b), .int .i64 e] := by
  refine callsT mix Tryz.func209 comp209 (by simp [Tryz.ntmps209]) ?_; simp only [go_sem, ↓reduceIte, Qa, Qb, Qc, Qd, Qe, Qf, reduceCtorEq, vc209, rs209]
  refine ⟨fun h => ⟨_, by simp [modv, h]; rfl⟩, fun h => vcall (nmodw a b (by omega) R) ?_⟩
  rintro R' v hle rfl
  try simp only [go_sem, ↓reduceIte, Qa, Qb, Qc, Qd, Qe, Qf, reduceCtorEq]
  exact ⟨_, rfl⟩
 refine callsT mix Tryz.func198 comp198 (by simp [Tryz.ntmps198]) ?_; simp only [go_sem, ↓reduceIte, Qa, Qb, Qc, Qd, Qe, Qf, reduceCtorEq, vc198, rs198]
 refine vcall hM ?_
 rintro R' v hle ⟨e, rfl⟩
 try simp only [go_sem, ↓reduceIte, Qa, Qb, Qc, Qd, Qe, Qf, reduceCtorEq]
def hit (y : Int) (r : Rule) : Prop := modv y r.1 = r.2.1
instance (y : Int) (r : Rule) : Decidable (hit y r) := by unfold hit; infer_instance
theorem cmod_in (a b : Int) (n : Nat) (W : World) : CallsIn Fence.wide n Tryz.prog 198 #[.int .i64 a, .int .i64 b] W fun e W' => e = .returned (.int .i64 (modv a b)) ∧ Ext W W' := by
 refine callsIn_wide.2 ?_
 have h := cmodw a b (fun _ _ => False) W (fun _ _ h => h.elim)
 refine Calls.mono h ?_
 rintro e w' ⟨v, R', rfl, _, _, hext, rfl⟩
 exact ⟨rfl, hext⟩
theorem Boxed.ext {W W' : World} {B : Nat} {t : TypeId} {v : Value} (h : Boxed W B t v) (he : Ext W W') : Boxed W' B t v := (he.block B h.lt).trans h
theorem keepsOthers_ext {W W' : World} (he : Ext W W') : KeepsOthers W W' := ⟨he.size, fun k o hk _ => (he.block k (Array.getElem?_eq_some_iff.1 hk).1).trans hk⟩
set_option maxRecDepth 100000 in
set_option maxHeartbeats 4000000 in
theorem leap_in (n : Nat) (hn : 3 ≤ n) (y : Int) (hy : I64 y) (e l0 : Int) (sm st : Value) (b off cap : Nat) (a : Option Addr) (zs : List Rule) (hbd : ∀ r ∈ zs, I64 r.1 ∧ I64 r.2.1) (hreach : zs.length * 24 ≤ 140737488351232) (w : World) (hb : zs ≠ [] → b < w.heap.size)
  (ha : zs ≠ [] → a = some ⟨b, off, none⟩) (hc : ∀ j, j < zs.length → ∀ i, i < 3 → w.cell? ⟨b, off + j * 3 + i, none⟩ = (rcells (zs[j]?.getD (0, 0, false)))[i]?) :
  CallsIn Fence.wide n Tryz.prog 208 #[.agg #[.int .i64 e, sm, .int .i64 l0, .slice a zs.length cap, st], .int .i64 y] w fun e W' =>
   ((e = .returned (.bool false) ∧ ∀ r ∈ zs, ¬ hit y r) ∨ (∃ k : Nat, k < zs.length ∧ e = .returned (.bool (fromEnd zs k).2.2.2) ∧ hit y (fromEnd zs k).2 ∧ ∀ j, j < k → ¬ hit y (fromEnd zs j).2)) ∧ Below w.heap.size w W' := by
 have h1 : 1 ≤ n := by omega
 refine callsIn_of_wp_marks Tryz.func208 rfl trivial ?_ rfl
 simp only [Tryz.ntmps208, List.size_toArray, List.length_cons, List.length_nil, Nat.reduceAdd, Nat.reduceSub, Array.replicate_succ, Array.replicate_zero, List.push_toArray, List.append_toArray, List.nil_append, List.cons_append]
 gi_wp2_with (refine ⟨trivial, ?_⟩; gi_at_call 213; refine (back_in Fence.wide (n - 1) trivial rfl _ _ _ _).mono ?_; rintro e w' ⟨rfl, rfl⟩)
 have bY := ((Boxed.new (w.alloc (.cells #[.int .i64 e, sm, .int .i64 l0, .slice a zs.length cap, st] 250)) 3 (.int .i64 y)).alloc (.cells #[.bool false] 4)).alloc (.cells #[.slice a zs.length cap] 37)
 have bR := (Boxed.new ((w.alloc (.cells #[.int .i64 e, sm, .int .i64 l0, .slice a zs.length cap, st] 250)).alloc (.cells #[.int .i64 y] 3)) 4 (.bool false)).alloc (.cells #[.slice a zs.length cap] 37)
 have bS := Boxed.new (((w.alloc (.cells #[.int .i64 e, sm, .int .i64 l0, .slice a zs.length cap, st] 250)).alloc (.cells #[.int .i64 y] 3)).alloc (.cells #[.bool false] 4)) 37 (.slice a zs.length cap)
 simp only [World.size_alloc] at bY bR bS
 have hB0 : Below w.heap.size w ((((w.alloc (.cells #[.int .i64 e, sm, .int .i64 l0, .slice a zs.length cap, st] 250)).alloc (.cells #[.int .i64 y] 3)).alloc (.cells #[.bool false] 4)).alloc (.cells #[.slice a zs.length cap] 37)) :=
  ((((Below.refl _ w).alloc (Nat.le_refl _) _).alloc (by simp) _).alloc (by simp; omega) _).alloc (by simp; omega) _
 have hsz : ((((w.alloc (.cells #[.int .i64 e, sm, .int .i64 l0, .slice a zs.length cap, st] 250)).alloc (.cells #[.int .i64 y] 3)).alloc (.cells #[.bool false] 4)).alloc (.cells #[.slice a zs.length cap] 37)).heap.size = w.heap.size + 4 := by simp
 obtain ⟨W0, hW0⟩ : ∃ W0, (((w.alloc (.cells #[.int .i64 e, sm, .int .i64 l0, .slice a zs.length cap, st] 250)).alloc (.cells #[.int .i64 y] 3)).alloc (.cells #[.bool false] 4)).alloc (.cells #[.slice a zs.length cap] 37) = W0 := ⟨_, rfl⟩
 rw [hW0] at bY bR bS hB0 hsz ⊢
 clear hW0
 refine wpIn_rangeFunc_ownH (P := Tryz.prog) (F := Fence.wide) (n := n) rfl h1 (gf := 216) (lb := #[.pointer (some ⟨w.heap.size + 1 + 1 + 1, 0, none⟩)]) rfl trivial (enters_of Tryz.func216 (by kernel_rfl) rfl)
  (back_stops Fence.wide (n - 1) trivial rfl (by omega) (w.heap.size + 1 + 1 + 1) (w.heap.size + 4) b off cap zs hreach W0 (by omega) (fun h => Nat.lt_of_lt_of_le (hb h) (by omega)) (by omega) a ha bS.cell (fun j hj i hi => (hB0.cell (p := ⟨b, off + j * 3 + i, none⟩) (hb (by rintro rfl; simp at hj))).trans (hc j hj i hi)))
  belowK_t (belowK_b (by omega)) (Below.refl _ _) (fun _ => rfl)
  (fun pre W => (((∀ p ∈ pre, ¬ hit y p.2) ∧ w.heap.size + 4 ≤ W.heap.size) ∧ Boxed W (w.heap.size + 1) 3 (.int .i64 y) ∧ Boxed W (w.heap.size + 1 + 1) 4 (.bool false)) ∧ Below w.heap.size w W)
  (fun c pre W => (c = .ret ∧ ∃ ini last, pre = ini ++ [last] ∧ (∀ p ∈ ini, ¬ hit y p.2) ∧ hit y last.2 ∧ Boxed W (w.heap.size + 1 + 1) 4 (.bool last.2.2.2)) ∧ Below w.heap.size w W)
  ?hI ?hIx ⟨⟨⟨by simp, by omega⟩, bY, bR⟩, hB0⟩
  (fun x a' W => ∃ Bx, w.heap.size + 4 ≤ Bx ∧ (∀ i v, (rcells x.2)[i]? = some v → W.cell? ⟨Bx, i, none⟩ = some v) ∧ a' = { tmps := #[.agg #[.int .i64 e, sm, .int .i64 l0, .slice a zs.length cap, st], .int .i64 y, .pointer (some ⟨w.heap.size, 0, none⟩), .pointer (some ⟨w.heap.size + 1, 0, none⟩), .pointer (some ⟨w.heap.size + 1 + 1, 0, none⟩), undef, .pointer (some ⟨Bx, 0, none⟩), .pointer (some ⟨w.heap.size, 0, none⟩), .pointer (some ⟨w.heap.size, 3, none⟩), .slice a zs.length cap, .func (.func 216) #[] #[.pointer (some ⟨w.heap.size + 1 + 1 + 1, 0, none⟩)], .int .i64 x.1, rv x.2, undef, undef, undef, undef, undef, undef, undef, undef, undef], defers := [] })
  ?hAx ?assign ?body ?done ?stop
 case hI => exact OwnFrom.and (OwnFrom.and (fun s A B row hs hg hr => ⟨hs.1, Nat.le_trans hs.2 hg.size⟩) (OwnFrom.and (Own.from (boxed_own _ _ _) _) (Own.from (boxed_own _ _ _) _))) (ownFrom_below (Nat.le_refl _) (by omega))
 case hIx =>
  exact fun c => OwnFrom.and (Own.from (fun s A B row hs hg hr => by
   obtain ⟨hc, ini, last, e1, e2, e3, e4⟩ := hs
   exact ⟨hc, ini, last, e1, e2, e3, boxed_own _ _ (fun (_ : Unit) => Value.bool last.2.2.2) () A B row e4 hg hr⟩) _) (ownFrom_below (Nat.le_refl _) (by omega))
 case hAx =>
  exact fun x a' _ X Y row hs hg hr => by
   obtain ⟨Bx, h1, h2, h3⟩ := hs
   exact ⟨Bx, h1, fun i v hi => cell_kept (h2 i v hi) hg (fun r e => (hr r e).2), h3⟩
 case assign =>
  rintro l pre x W K ⟨⟨⟨hp, hs1⟩, bY1, bR1⟩, hB1⟩ hK
  obtain ⟨xi, ev, rest, yes⟩ := x
  simp only [rv] at hK ⊢
  gi_wp2
  exact hK _ _ ((KeepsOthers.alloc _ _).from _) ((Below.refl _ W).alloc hs1 _) ⟨⟨⟨hp, by simp; omega⟩, bY1.alloc _, bR1.alloc _⟩, hB1.alloc hB1.size _⟩
   ⟨W.heap.size, hs1, fun i v hi => by
    have hlt : i < 3 := by have := (List.getElem?_eq_some_iff.1 hi).1; simpa [rcells] using this
    have hh := heap_new W (.cells #[Value.int .i64 ev, Value.int .i64 rest, Value.bool yes] 93)
    simp only [World.cell?, hh, Option.isSome_none, Bool.false_eq_true, if_false]
    simpa [rcells] using hi, rfl⟩
 case body =>
  rintro l pre x a' W hl ⟨r, hr⟩ ⟨⟨⟨hp, hs1⟩, bY1, bR1⟩, hB1⟩ ⟨Bx, hBx, hcx, rfl⟩ hlt
  obtain ⟨xi, ev, rest, yes⟩ := x
  have c0 := hcx 0 _ rfl
  have c1 := hcx 1 _ rfl
  have c2 := hcx 2 _ rfl
  clear hcx
  dsimp only at c0 c1 c2
  simp only [rv]
  have cY := bY1.cell
  have hBlt : Bx < W.heap.size := World.block_lt_of_cell? W ⟨Bx, 0, none⟩ c0
  have hd : 1 ≤ n - 1 - 1 := by omega
  have hmx : Tryz.prog.follows .mixedOrders = true := mix
  gi_wp2
  gi_region_with_o (refine ⟨trivial, ?_⟩; gi_at_call 198; refine (CallsIn.inRound l (cmod_in y ev (n - 1 - 1 - 1) _)).mono ?_; rintro e w' ⟨rfl, hext⟩; have c1' : w'.cell? ⟨Bx, 1, none⟩ = some (.int .i64 rest) := (hext.cell (p := ⟨Bx, 1, none⟩) hBlt).trans c1; have c2' : w'.cell? ⟨Bx, 2, none⟩ = some (.bool yes) := (hext.cell (p := ⟨Bx, 2, none⟩) hBlt).trans c2; have he : Ext W w' := Ext.tr (b := W.drew) ⟨rfl, rfl, rfl, Nat.le_refl _, fun _ _ => rfl, Nat.mul_le_mul_left _ (Nat.le_succ _)⟩ hext; have bR2 := Boxed.ext bR1 he; have cR2 := bR2.cell; have fR2 := bR2.frozen)
  all_goals gi_wp2
  all_goals first
   | exact ⟨((keepsOthers_ext he).trans (KeepsOthers.setCell _ _ _)).from _, ⟨rfl, pre, (xi, ev, rest, yes), rfl, hp, eq_of_beq (show (modv y ev == rest) = true by assumption), bR2.set _⟩, (hB1.trans (Below.mono he.below hB1.size)).setCell (p := ⟨w.heap.size + 1 + 1, 0, none⟩) (by dsimp only; omega) _⟩
   | exact ⟨(keepsOthers_ext he).from _, Below.mono he.below hs1, ⟨⟨fun p hp' => (List.mem_append.1 hp').elim (hp p) (fun e => by
     have h : (modv y ev == rest) = false := by assumption
     simp only [List.mem_singleton] at e
     subst e
     exact beq_eq_false_iff_ne.1 h), Nat.le_trans hs1 he.size⟩, Boxed.ext bY1 he, bR2⟩, hB1.trans (Below.mono he.below hB1.size)⟩
 case done =>
  rintro D ys W hD rfl ⟨⟨⟨hp, hs1⟩, bY1, bR1⟩, hB1⟩ hK
  have cR := bR1.cell
  have fR := bR1.frozen
  gi_wp2
  have hK' := (KeepsOthers.setCell W ⟨w.heap.size + 1 + 1, 0, none⟩ (.bool false)).same D _ hK rfl
  refine ⟨by simp, .inl ⟨_, _, rfl, run_takeDeferred hK', ?_⟩⟩
  have hc5 := cell_kept (World.cell?_setCell_same' W ⟨w.heap.size + 1 + 1, 0, none⟩ (.bool false) (by rw [cR]; rfl)) (grownBy_putObj' _ D (.deferred none)) (fun r e => by cases e; exact ⟨_, hK', rfl⟩)
  refine ⟨.bool false, ?_, .inl ⟨rfl, fun r hr => ?_⟩, (hB1.setCell (p := ⟨w.heap.size + 1 + 1, 0, none⟩) (by dsimp only; omega) _).trans (belowK_b (w := w) (Nat.le_refl _) _ D _ _ (by omega) hK' rfl rfl)⟩
  ·simp [results, Tryz.f208, go_sem, hc5]
  ·obtain ⟨i, hi, rfl⟩ := List.getElem_of_mem hr
   have := hp (fromEnd zs (zs.length - 1 - i)) (by simp only [upto, List.mem_map, List.mem_range]; exact ⟨_, by omega, rfl⟩)
   simpa [fromEnd, show zs.length - 1 - (zs.length - 1 - i) = i by omega, hi] using this
 case stop =>
  rintro D c pre W hD ⟨k, hk, rfl⟩ ⟨⟨rfl, ini, last, e1, e2, e3, bR1⟩, hB1⟩ hK
  gi_wp2
  refine ⟨by simp, .inl ⟨_, _, rfl, run_takeDeferred hK, ?_⟩⟩
  have hc5 := cell_kept bR1.cell (grownBy_putObj' _ D (.deferred none)) (fun r e => by cases e; exact ⟨_, hK, rfl⟩)
  obtain ⟨k', rfl⟩ : ∃ k', k = k' + 1 := by
   cases k with
   | zero => simp [upto] at e1
   | succ k' => exact ⟨k', rfl⟩
  rw [upto_succ] at e1
  obtain ⟨rfl, e5⟩ := List.append_inj' e1 rfl
  obtain rfl : fromEnd zs k' = last := by simpa using e5
  refine ⟨.bool (fromEnd zs k').2.2.2, ?_, .inr ⟨k', by omega, rfl, e3, fun j hj => e2 (fromEnd zs j) (by simp only [upto, List.mem_map, List.mem_range]; exact ⟨j, hj, rfl⟩)⟩, hB1.trans (belowK_b (w := w) (Nat.le_refl _) W D _ _ (by omega) hK rfl rfl)⟩
  simp [results, Tryz.f208, go_sem, hc5]
end Go.Proofs.YtdgndfabdmecmaaGreat
namespace Go.Proofs.YtdgndfabdmecmaaGreat
open Go.RowKit Go.Proofs.YtdgndfabdmecmaaGreat.Vc
theorem leapOf_snoc (rs : List Rule) (r : Rule) (y : Int) : leapOf (rs ++ [r]) y = if y % r.1 = r.2.1 then r.2.2 else leapOf rs y := by
 simp [leapOf, List.foldl_append]
theorem take_snoc {α : Type} (l : List α) (k : Nat) (hk : k < l.length) : l.take (k + 1) = l.take k ++ [l[k]] := by
 rw [List.take_add_one, List.getElem?_eq_getElem hk]; rfl
theorem leapOf_none {rs : List Rule} {y : Int} (h : ∀ r ∈ rs, ¬ y % r.1 = r.2.1) : leapOf rs y = false := by
 unfold leapOf
 generalize hacc : false = acc
 rw [← hacc]
 clear hacc
 suffices ∀ acc : Bool, rs.foldl (fun acc r => if y % r.1 = r.2.1 then r.2.2 else acc) acc = acc from this false
 induction rs with
 | nil => intro acc; rfl
 | cons r rs ih =>
  intro acc
  rw [List.foldl_cons, if_neg (h r (by simp))]
  exact ih (fun r hr => h r (by simp [hr])) acc
theorem leapOf_take {rs : List Rule} {y : Int} : ∀ k : Nat, k ≤ rs.length → (∀ j, j < k → ∀ r, rs[rs.length - 1 - j]? = some r → ¬ y % r.1 = r.2.1) → leapOf rs y = leapOf (rs.take (rs.length - k)) y
 | 0, _, _ => by simp
 | k + 1, hk, h => by
  rw [leapOf_take k (by omega) (fun j hj => h j (by omega))]
  have h1 : rs.length - 1 - k < rs.length := by omega
  have h2 := h k (by omega) rs[rs.length - 1 - k] (List.getElem?_eq_getElem h1)
  rw [show rs.length - k = rs.length - 1 - k + 1 by omega, take_snoc _ _ h1, leapOf_snoc, if_neg h2]
  congr 2
  omega
theorem hit_ok {y : Int} {r : Rule} (h : okRule r) : hit y r ↔ y % r.1 = r.2.1 := by
 unfold hit
 rw [modv_eq h.1 (by have := h.bd; unfold I64; omega)]
theorem cLeap (c : Cal) (sm sr st : Value) (R : RO) (h : RulesIn R sr c.rules) (hok : ∀ r ∈ c.rules, okRule r) (hn : c.rules.length ≤ 1000) (e l0 : Int) (y : Int) (hy : I64 y) :
  CallsR Tryz.prog 208 [.agg #[.int .i64 e, sm, .int .i64 l0, sr, st], .int .i64 y] R fun _ v => v = .bool (leapOf c.rules y) := by
 intro w hR
 obtain ⟨a, cap, rfl, hc, hf⟩ := h.form
 obtain ⟨b, off, hb, ha, hcell⟩ : ∃ b off, (c.rules ≠ [] → b < w.heap.size) ∧ (c.rules ≠ [] → a = some ⟨b, off, none⟩) ∧ ∀ j, j < c.rules.length → ∀ i, i < 3 → w.cell? ⟨b, off + j * 3 + i, none⟩ = (rcells (c.rules[j]?.getD (0, 0, false)))[i]? := by
  by_cases hne : c.rules = []
  ·exact ⟨0, 0, fun h => absurd hne h, fun h => absurd hne h, fun j hj => by rw [hne] at hj; simp at hj⟩
  ·have h0 : 0 < c.rules.length := List.length_pos_iff.2 hne
   obtain ⟨ad, rfl, hR0⟩ := hf 0 h0
   have hc0 := hR _ _ (hR0 0 _ rfl)
   have hsp : ad.spot = none := by
    have e : (ad.add (0 * 3)).add 0 = ad := by simp [Addr.add]
    rw [e] at hc0
    cases hs : ad.spot with
    | none => rfl
    | some x =>
     exfalso
     unfold World.cell? at hc0
     simp only [hs, Option.isSome_some, if_true] at hc0
     split at hc0
     ·cases hc0
     ·cases hc0
   obtain ⟨b, off, sp⟩ := ad
   simp only at hsp
   subst hsp
   refine ⟨b, off, fun _ => ?_, fun _ => rfl, fun j hj i hi => ?_⟩
   ·have := World.block_lt_of_cell? w _ hc0
    simpa [Addr.add_lit] using this
   ·obtain ⟨ad', e', hR'⟩ := hf j hj
    cases e'
    have hlen : i < (rcells c.rules[j]).length := by simpa [rcells] using hi
    have hg : (rcells c.rules[j])[i]? = some (rcells c.rules[j])[i] := List.getElem?_eq_getElem hlen
    have h1 := hR _ _ (hR' i _ hg)
    rw [Addr.add_lit, Addr.add_lit] at h1
    rw [List.getElem?_eq_getElem hj, Option.getD_some, hg]
    exact h1
 have hl := leap_in 5 (by omega) y hy e l0 sm st b off cap a c.rules (fun r hr => by have := hok r hr; have := this.bd; simp only [okRule] at *; unfold I64; omega) (by omega) w hb ha hcell
 refine Calls.mono (callsIn_wide.1 hl) ?_
 rintro e w' ⟨h1, hB⟩
 refine ⟨.bool (leapOf c.rules y), R, ?_, RO.le_refl R, fun a v ha => ⟨by rw [hB.cell (World.block_lt_of_cell? w a (hR a v ha))]; exact hR a v ha, .inl ha⟩, ⟨hB.1, hB.2, hB.3, hB.4, hB.5, (by simp : 0 * w.drawn ≤ 0 * w'.drawn)⟩, rfl⟩
 rcases h1 with ⟨rfl, h1⟩ | ⟨k, hk, rfl, h1, h2⟩
 ·rw [leapOf_none fun r hr => by rw [← hit_ok (hok r hr)]; exact h1 r hr]
 ·have hlt : c.rules.length - 1 - k < c.rules.length := by omega
  have e1 := leapOf_take (rs := c.rules) (y := y) k (by omega) (fun j hj r hr => by
   have := h2 j hj
   simp only [fromEnd] at this
   rw [hr, Option.getD_some, hit_ok (hok r (List.mem_of_getElem? hr))] at this
   exact this)
  rw [e1, show c.rules.length - k = c.rules.length - 1 - k + 1 by omega, take_snoc _ _ hlt, leapOf_snoc]
  simp only [fromEnd, List.getElem?_eq_getElem hlt, Option.getD_some] at h1 ⊢
  rw [hit_ok (hok _ (List.getElem_mem hlt))] at h1
  rw [if_pos h1]
abbrev av (c : Cal) (sm sr st : Value) : Value := .agg #[.int .i64 c.epoch, sm, .int .i64 c.leap, sr, st]
theorem valid_small {c : Cal} (h : c.valid) : (∀ r ∈ c.rules, okRule r) ∧ c.rules.length ≤ 1000 := ⟨fun r hr => (h.per.2.2 r hr).1, by have := h.2.2.2.1; omega⟩
theorem cMonth (c : Cal) (hv : c.valid) (sm sr st : Value) (R : RO) (h : CalIn R c sm sr) (y : Int) (hy : I64 y) (m : Nat) (hm : m < c.months.length) :
  CallsR Tryz.prog 197 [av c sm sr st, .int .i64 y, .int .i64 (m + 1 : Int)] R fun _ v => v = .int .i64 (c.mlen y m) := by
 obtain ⟨am, cm, rfl, hcm, hfm⟩ := h.m.form
 obtain ⟨ad, had, hR⟩ := hfm m hm
 have hin := hv.2.2.2.2.2.1 _ (List.getElem_mem hm)
 have hml := hv.2.1.2
 have hl : c.mlen y m = c.months[m] + if (m : Int) = c.leap ∧ leapOf c.rules y = true then 1 else 0 := by
  unfold Cal.mlen
  rw [List.getD_eq_getElem?_getD, List.getElem?_eq_getElem hm, Option.getD_some]
 refine callsT mix Tryz.func197 comp197 (by simp [Tryz.ntmps197]) ?_; simp only [go_sem, ↓reduceIte, Qa, Qb, Qc, Qd, Qe, Qf, reduceCtorEq, vc197, rs197]
 refine ⟨_, W.in64 (by omega), ?_⟩
 rw [show (m : Int) + 1 - 1 = m by omega]
 try simp only [go_sem, ↓reduceIte, Qa, Qb, Qc, Qd, Qe, Qf, reduceCtorEq]
 refine ⟨by omega, vat ad had ?_⟩
 try simp only [go_sem, ↓reduceIte, Qa, Qb, Qc, Qd, Qe, Qf, reduceCtorEq]
 refine vload _ hR ?_
 try simp only [go_sem, ↓reduceIte, Qa, Qb, Qc, Qd, Qe, Qf, reduceCtorEq]
 refine ⟨_, W.in64 (by omega), ?_⟩
 rw [show (m : Int) + 1 - 1 = m by omega]
 try simp only [go_sem, ↓reduceIte, Qa, Qb, Qc, Qd, Qe, Qf, reduceCtorEq]
 refine ⟨fun h1 => vcall (cLeap c _ _ _ R h.r (valid_small hv).1 (valid_small hv).2 _ _ y hy) ?_, fun h1 => ?_⟩
 ·rintro R1 v hle rfl
  try simp only [go_sem, ↓reduceIte, Qa, Qb, Qc, Qd, Qe, Qf, reduceCtorEq]
  refine ⟨fun h2 => ⟨_, W.in64 (by omega), ?_⟩, fun h2 => ?_⟩
  ·rw [hl, if_pos ⟨h1, h2⟩]
  ·rw [hl, if_neg (fun h3 => by rw [h3.2] at h2; cases h2)]; simp
 ·rw [hl, if_neg (fun h3 => h1 h3.1)]; simp
theorem cYear (c : Cal) (hv : c.valid) (sm sr st : Value) (R : RO) (h : CalIn R c sm sr) (y : Int) (hy : I64 y) :
  CallsR Tryz.prog 189 [av c sm sr st, .int .i64 y] R fun _ v => v = .int .i64 (c.ylen y) := by
 have hml := hv.2.1.2
 obtain ⟨am, cm, rfl, hcm, hfm⟩ := h.m.form
 refine callsT mix Tryz.func189 comp189 (by simp [Tryz.ntmps189]) ?_; simp only [go_sem, ↓reduceIte, Qa, Qb, Qc, Qd, Qe, Qf, reduceCtorEq, vc189, rs189]
 refine vcLoop Nat (fun k => [(10, .val (.int .i64 c.months.length)), (11, .val (.int .i64 k)), (5, .val (.int .i64 (sumTo (c.mlen y) k))), (2, .loc 0 0), (1, .val (.int .i64 y))])
  (fun _ => [.box [.val (.int .i64 c.epoch), .val (.slice am c.months.length cm), .val (.int .i64 c.leap), .val sr, .val st]]) (fun k _ => k ≤ c.months.length) (fun k => c.months.length - k) 0 ?_ rfl ?_ ?_
 ·(try simp only [go_sem, ↓reduceIte, Qa, Qb, Qc, Qd, Qe, Qf, reduceCtorEq]) <;> (repeat' (first | rfl | trivial | constructor | (intro h; exact absurd rfl h)))
 ·omega
 ·rintro k env R1 hle hE hk
  have hs := sumTo_bd (f := c.mlen y) (a := 1) (b := 41) k (fun i hi => hv.mlen_bd y (by omega))
  (simp only [go_sem] at hE; obtain ⟨e10, e11, e5, e2, e1⟩ := hE; simp only [go_sem, ↓reduceIte, Qa, Qb, Qc, Qd, Qe, Qf, reduceCtorEq, e10, e11, e5, e2, e1]; dsimp only at *)
  refine ⟨fun hlt => ⟨_, W.in64 (by omega), ?_⟩, fun hge => ?_⟩
  ·refine vcall (cMonth c hv _ _ _ R1 (h.mono hle) y hy k (by omega)) ?_
   rintro R2 v hle2 rfl
   simp only [go_sem, ↓reduceIte, Qa, Qb, Qc, Qd, Qe, Qf, reduceCtorEq, e10, e11, e5, e2, e1]
   have hb := hv.mlen_bd y (show k < c.months.length by omega)
   exact ⟨_, W.in64 (by omega), _, W.in64 (by omega), k + 1, by omega, ⟨rfl, rfl⟩, by omega⟩
  ·have : k = c.months.length := by omega
   subst this
   rfl
def Cal.starts (c : Cal) : List Int := (List.range (c.per.toNat + 1)).map c.S
theorem cCycle (c : Cal) (hv : c.valid) (sm sr st : Value) (R : RO) (hst : Ints R st c.starts) : CallsR Tryz.prog 186 [av c sm sr st] R fun _ v => v = .tuple #[.int .i64 c.per, .int .i64 c.days] := by
 obtain ⟨a, cap, rfl, hc, hf⟩ := hst.form
 have hp := hv.per.2.1
 have hl : c.starts.length = c.per.toNat + 1 := by simp [Cal.starts]
 obtain ⟨ad, had, hR⟩ := hf c.per.toNat (by omega)
 refine callsT mix Tryz.func186 comp186 (by simp [Tryz.ntmps186]) ?_; simp only [go_sem, ↓reduceIte, Qa, Qb, Qc, Qd, Qe, Qf, reduceCtorEq, vc186, rs186]
 refine ⟨_, W.in64 (by omega), ?_⟩
 rw [hl, show ((c.per.toNat + 1 : Nat) : Int) - 1 = c.per by omega]
 refine ⟨by omega, by omega, vat ad had ?_⟩
 try simp only [go_sem, ↓reduceIte, Qa, Qb, Qc, Qd, Qe, Qf, reduceCtorEq]
 refine vload _ hR ?_
 try simp only [go_sem, ↓reduceIte, Qa, Qb, Qc, Qd, Qe, Qf, reduceCtorEq]
 simp [Cal.starts, Cal.days]
end Go.Proofs.YtdgndfabdmecmaaGreat
namespace Go.Proofs.YtdgndfabdmecmaaGreat
open Go.RowKit Go.Proofs.YtdgndfabdmecmaaGreat.Vc
theorem Cal.starts_len (c : Cal) : c.starts.length = c.per.toNat + 1 := by simp [Cal.starts]
theorem Cal.valid.days_bd {c : Cal} (h : c.valid) : c.per ≤ c.days ∧ c.days ≤ 262400 := by
 have := h.S_bd c.per.toNat
 have := h.per.2.1
 unfold Cal.days
 omega
def Cal.scells (c : Cal) (k : Nat) : List Value := ((List.range (k + 1)).map c.S).map (.int .i64)
theorem Cal.scells_len (c : Cal) (k : Nat) : (c.scells k).length = k + 1 := by simp [Cal.scells]
theorem Cal.scells_succ (c : Cal) (k : Nat) : c.scells k ++ [.int .i64 (c.S (k + 1))] = c.scells (k + 1) := by simp [Cal.scells, List.range_succ]
theorem Cal.scells_get (c : Cal) (k : Nat) : (c.scells k)[k]? = some (.int .i64 (c.S k)) := by simp [Cal.scells]
def OpenP (c : Cal) (sm sr : Value) (R : RO) (v : Value) : Prop :=
 (¬ c.valid ∧ v = .tuple #[.agg #[.int .i64 0, .slice none 0 0, .int .i64 0, .slice none 0 0, .slice none 0 0], .bool false]) ∨
  (c.valid ∧ ∃ a cap, v = .tuple #[av c sm sr (.slice a c.starts.length cap), .bool true] ∧ Ints R (.slice a c.starts.length cap) c.starts)
theorem cOpen (c : Cal) (sm sr : Value) (R : RO) (h : CalIn R c sm sr) : CallsR Tryz.prog 185 [cv c sm sr] R fun R' v => OpenP c sm sr R' v := by
 obtain ⟨am, cm, rfl, hcm, hfm⟩ := h.m.form
 obtain ⟨ar, cr, rfl, hcr, hfr⟩ := h.r.form
 refine callsT mix Tryz.func185 comp185 (by simp [Tryz.ntmps185]) ?_; simp only [go_sem, ↓reduceIte, Qa, Qb, Qc, Qd, Qe, Qf, reduceCtorEq, vc185, rs185]
 refine vcall (cValid c _ _ R h) ?_
 rintro R1 v hle rfl
 try simp only [go_sem, ↓reduceIte, Qa, Qb, Qc, Qd, Qe, Qf, reduceCtorEq]
 refine ⟨fun hv => ?_, fun hv => ?_⟩
 ·exact .inl ⟨hv, rfl⟩
 ·have hp := hv.per
  refine vcall (cPeriod c.rules _ R1 (h.r.mono hle)) ?_
  rintro R2 v hle2 rfl
  rw [hp.1]
  simp only [go_sem, ↓reduceIte, Qa, Qb, Qc, Qd, Qe, Qf, reduceCtorEq, Option.getD_some, Option.isSome_some]
  refine ⟨_, W.in64 (by omega), by omega, by omega, by omega, ?_⟩
  simp only [go_sem, ↓reduceIte, Qa, Qb, Qc, Qd, Qe, Qf, reduceCtorEq, Int.toNat_one]
  intro b cap R3 hle3 hrow hcap hfresh
  try simp only [go_sem, ↓reduceIte, Qa, Qb, Qc, Qd, Qe, Qf, reduceCtorEq]
  refine vcLoop (Nat × Nat × Nat) (fun x => [(23, .val (.int .i64 c.per)), (24, .val (.int .i64 x.1)), (6, .loc 3 0), (2, .loc 1 0)])
   (fun x => [.box [.val (.int .i64 c.epoch), .val (.slice am c.months.length cm), .val (.int .i64 c.leap), .val (.slice ar c.rules.length cr)],
    .box [.val (.int .i64 0), .val (.slice none 0 0), .val (.int .i64 0), .val (.slice none 0 0), .val (.slice none 0 0)],
    .shr x.2.1 x.2.2 3 1 (c.scells x.1),
    .box [.val (.int .i64 c.epoch), .val (.slice am c.months.length cm), .val (.int .i64 c.leap), .val (.slice ar c.rules.length cr), .val (.slice (some ⟨x.2.1, 0, none⟩) (x.1 + 1) x.2.2)]])
   (fun x R => x.1 ≤ c.per.toNat ∧ RowIn R x.2.1 (c.scells x.1) ∧ x.1 + 1 ≤ x.2.2) (fun x => c.per.toNat - x.1) (0, b, cap) ?_ rfl ?_ ?_
  ·(try simp only [go_sem, ↓reduceIte, Qa, Qb, Qc, Qd, Qe, Qf, reduceCtorEq]) <;> (repeat' (first | rfl | trivial | constructor | (intro h; exact absurd rfl h)))
  ·exact ⟨by omega, hrow, hcap⟩
  ·rintro ⟨k, b, cap⟩ env R4 hle4 hE ⟨hk, hrow, hcap⟩
   (simp only [go_sem] at hE; obtain ⟨e23, e24, e6, e2⟩ := hE; simp only [go_sem, ↓reduceIte, Qa, Qb, Qc, Qd, Qe, Qf, reduceCtorEq, e23, e24, e6, e2]; dsimp only at *)
   have hlen := c.scells_len k
   have hS := hv.S_bd k
   have hS1 : c.S (k + 1) = c.S k + c.ylen (k + 1) := rfl
   refine ⟨fun hlt => ⟨by omega, ?_⟩, fun hge => ?_⟩
   ·refine vload (.int .i64 (c.S k)) (hrow k _ (c.scells_get k)) ?_
    simp only [go_sem, ↓reduceIte, Qa, Qb, Qc, Qd, Qe, Qf, reduceCtorEq, e23, e24, e6, e2]
    refine ⟨_, W.in64 (by omega), ?_⟩
    refine vcall (cYear c hv _ _ _ R4 ((((h.mono hle).mono hle2).mono hle3).mono hle4) (k + 1) (by unfold I64; omega)) ?_
    rintro R5 v hle5 rfl
    have hb := hv.ylen_bd (k + 1)
    have hml := hv.2.1
    simp only [go_sem, ↓reduceIte, Qa, Qb, Qc, Qd, Qe, Qf, reduceCtorEq, e23, e24, e6, e2]
    refine ⟨_, W.in64 (by omega), ?_⟩
    rw [← hS1]
    refine vapp 2 (c.scells k) rfl rfl rfl (by omega) (by omega) ?_
    rw [c.scells_succ]
    intro b' cap' R6 hle6 hrow6 hcap6
    rw [c.scells_len] at hcap6
    simp only [go_sem, ↓reduceIte, Qa, Qb, Qc, Qd, Qe, Qf, reduceCtorEq, e23, e24, e6, e2]
    refine ⟨_, W.in64 (by omega), (k + 1, b', cap'), by dsimp only; omega, ⟨rfl, ⟨rfl, rfl, rfl⟩, rfl⟩, by dsimp only; omega, hrow6, by dsimp only; omega⟩
   ·have : k = c.per.toNat := by omega
    subst this
    have := RowIn.ints (cap := cap) (xs := c.starts) hrow (by rw [c.starts_len]; omega)
    exact .inr ⟨hv, some ⟨b, 0, none⟩, cap, by rw [c.starts_len], this⟩
end Go.Proofs.YtdgndfabdmecmaaGreat
namespace Go.Proofs.YtdgndfabdmecmaaGreat
open Go.RowKit Go.Proofs.YtdgndfabdmecmaaGreat.Vc
def leapA (c : Cal) (y : Int) : Bool := decide c.valid && leapOf c.rules y
def mlenA (c : Cal) (y m : Int) : Int := if c.valid ∧ 1 ≤ m ∧ m ≤ c.months.length then c.mlen y (m - 1).toNat else 0
theorem pMonthLength (c : Cal) (sm sr : Value) (R : RO) (h : CalIn R c sm sr) (y m : Int) (hy : I64 y) : CallsR Tryz.prog 187 [cv c sm sr, .int .i64 y, .int .i64 m] R fun _ v => v = .int .i64 (mlenA c y m) := by
 obtain ⟨am, cm, rfl, hcm, hfm⟩ := h.m.form
 obtain ⟨ar, cr, rfl, hcr, hfr⟩ := h.r.form
 refine callsT mix Tryz.func187 comp187 (by simp [Tryz.ntmps187]) ?_; simp only [go_sem, ↓reduceIte, Qa, Qb, Qc, Qd, Qe, Qf, reduceCtorEq, vc187, rs187]
 refine vcall (cValid c _ _ R h) ?_
 rintro R1 v hle rfl
 try simp only [go_sem, ↓reduceIte, Qa, Qb, Qc, Qd, Qe, Qf, reduceCtorEq]
 refine ⟨fun hv => ⟨fun h1 => ⟨fun h2 => ?_, fun h2 => ?_⟩, fun h1 => ?_⟩, fun hv => ?_⟩
 ·rw [mlenA, if_neg (by omega)]
 ·have hm := cMonth c hv (.slice am c.months.length cm) (.slice ar c.rules.length cr) (.slice none 0 0) R1 (h.mono hle) y hy (m - 1).toNat (by omega)
  rw [show (((m - 1).toNat : Nat) : Int) + 1 = m by omega] at hm
  refine vcall hm ?_
  rintro R2 v hle2 rfl
  try simp only [go_sem, ↓reduceIte, Qa, Qb, Qc, Qd, Qe, Qf, reduceCtorEq]
  rw [mlenA, if_pos ⟨hv, by omega, by omega⟩]
 ·rw [mlenA, if_neg (by omega)]
 ·rw [mlenA, if_neg (fun h => hv h.1)]
def ylenA (c : Cal) (y : Int) : Int := if c.valid then c.ylen y else 0
theorem pYearLength (c : Cal) (sm sr : Value) (R : RO) (h : CalIn R c sm sr) (y : Int) (hy : I64 y) : CallsR Tryz.prog 157 [cv c sm sr, .int .i64 y] R fun _ v => v = .int .i64 (ylenA c y) := by
 obtain ⟨am, cm, rfl, hcm, hfm⟩ := h.m.form
 obtain ⟨ar, cr, rfl, hcr, hfr⟩ := h.r.form
 refine callsT mix Tryz.func157 comp157 (by simp [Tryz.ntmps157]) ?_; simp only [go_sem, ↓reduceIte, Qa, Qb, Qc, Qd, Qe, Qf, reduceCtorEq, vc157, rs157]
 refine vcall (cValid c _ _ R h) ?_
 rintro R1 v hle rfl
 try simp only [go_sem, ↓reduceIte, Qa, Qb, Qc, Qd, Qe, Qf, reduceCtorEq]
 refine ⟨fun hv => by rw [ylenA, if_neg hv], fun hv => vcall (cYear c hv _ _ _ R1 (h.mono hle) y hy) ?_⟩
 rintro R2 v hle2 rfl
 try simp only [go_sem, ↓reduceIte, Qa, Qb, Qc, Qd, Qe, Qf, reduceCtorEq]
 rw [ylenA, if_pos hv]
def cycA (c : Cal) : Value := if c.valid then .tuple #[.int .i64 c.per, .int .i64 c.days, .int .i64 0] else .tuple #[.int .i64 0, .int .i64 0, .int .i64 1]
theorem pCycle (c : Cal) (sm sr : Value) (R : RO) (h : CalIn R c sm sr) : CallsR Tryz.prog 155 [cv c sm sr] R fun _ v => v = cycA c := by
 obtain ⟨am, cm, rfl, hcm, hfm⟩ := h.m.form
 obtain ⟨ar, cr, rfl, hcr, hfr⟩ := h.r.form
 refine callsT mix Tryz.func155 comp155 (by simp [Tryz.ntmps155]) ?_; simp only [go_sem, ↓reduceIte, Qa, Qb, Qc, Qd, Qe, Qf, reduceCtorEq, vc155, rs155]
 refine vcall (cOpen c _ _ R h) ?_
 rintro R1 v hle (⟨hv, rfl⟩ | ⟨hv, a, cap, rfl, hst⟩)
 ·try simp only [go_sem, ↓reduceIte, Qa, Qb, Qc, Qd, Qe, Qf, reduceCtorEq]
  rw [cycA, if_neg hv]
 ·try simp only [go_sem, ↓reduceIte, Qa, Qb, Qc, Qd, Qe, Qf, reduceCtorEq]
  refine vcall (cCycle c hv _ _ _ R1 hst) ?_
  rintro R2 v hle2 rfl
  try simp only [go_sem, ↓reduceIte, Qa, Qb, Qc, Qd, Qe, Qf, reduceCtorEq]
  rw [cycA, if_pos hv]
def Cal.has (c : Cal) (m d y : Int) : Prop := 1 ≤ m ∧ m ≤ c.months.length ∧ 1 ≤ d ∧ d ≤ c.mlen y (m - 1).toNat
instance (c : Cal) (m d y : Int) : Decidable (c.has m d y) := by unfold Cal.has; infer_instance
end Go.Proofs.YtdgndfabdmecmaaGreat
namespace Go.Proofs.YtdgndfabdmecmaaGreat
open Go.Proofs.YtdgndfabdmecmaaGreat.Vc
theorem mlenA_eq {c : Cal} (h : c.valid) (y : Int) {m : Int} (hm : 1 ≤ m ∧ m ≤ c.months.length) : mlenA c y m = c.mlen y (m - 1).toNat := by
 unfold mlenA
 rw [if_pos ⟨h, hm⟩]
theorem zYearDay (c : Cal) (hv : c.valid) (sm sr : Value) (R : RO) (h : CalIn R c sm sr) (begin y : Int) (r : Yr) (hr : YrOK c r) (hy : 1 ≤ y ∧ y ≤ 1099511627776) (hb : 0 ≤ begin ∧ begin ≤ 1099511627776) :
  CallsR Tryz.prog 156 [cv c sm sr, .int .i64 begin, .int .i64 y, .agg r.cells.toArray] R fun _ v => v = .tuple #[.int .i64 (ydA c begin y r).1, .bool (ydA c begin y r).2] := by
 have hyd := yd_bd hv begin y hr
 have hM := fun R' (hle : RO.le R R') m => pMonthLength c sm sr R' (h.mono hle) y m (by unfold I64; omega)
 have hm := hr.month
 have hw := hr.week
 have hd := hr.wday
 have h16 := hv.2.1.2
 obtain ⟨mo, wk, wd, mi, of⟩ := r
 obtain ⟨am, cm, rfl, hcm, hfm⟩ := h.m.form
 obtain ⟨ar, cr, rfl, hcr, hfr⟩ := h.r.form
 dsimp only at hm hw hd
 simp only [Yr.cells, cv] at hM ⊢
 refine callsT mix Tryz.func156 comp156 (by simp [Tryz.ntmps156]) ?_; simp only [go_sem, ↓reduceIte, Qa, Qb, Qc, Qd, Qe, Qf, reduceCtorEq, vc156, rs156]
 refine vcLoop Nat (fun k => [(10, .val (.int .i64 ((k : Int) + 1))), (1, .val (.int .i64 (begin + sumTo (c.mlen y) k))), (4, .loc 0 0), (7, .loc 1 0), (2, .val (.int .i64 y))])
  (fun _ => [.box [.val (.int .i64 c.epoch), .val (.slice am c.months.length cm), .val (.int .i64 c.leap), .val (.slice ar c.rules.length cr)], .box [.val (.int .i64 mo), .val (.int .i64 wk), .val (.int .i64 wd), .val (.int .i64 mi), .val (.int .i64 of)]])
  (fun k _ => k ≤ (mo - 1).toNat) (fun k => (mo - 1).toNat - k) 0 ?_ ?_ ?_ ?_
 ·try simp only [go_sem, ↓reduceIte, Qa, Qb, Qc, Qd, Qe, Qf, reduceCtorEq]
  simp [sumTo, blkM]
 ·try simp only [go_sem, ↓reduceIte, Qa, Qb, Qc, Qd, Qe, Qf, reduceCtorEq]
 ·exact Nat.zero_le _
 rintro k env R1 hle1 hE hk
 (simp only [go_sem] at hE; obtain ⟨e10, e1, e4, e7, e2⟩ := hE; simp only [go_sem, ↓reduceIte, Qa, Qb, Qc, Qd, Qe, Qf, reduceCtorEq, e10, e1, e4, e7, e2]; dsimp only at *)
 have hS := sumTo_bd (f := c.mlen y) (a := 1) (b := 41) k (fun i hi => mlen_bd hv y (by omega))
 refine ⟨fun hlt => ?_, fun hge => ?_⟩
 ·refine vcall (hM R1 hle1 ((k : Int) + 1)) ?_
  rintro R2 r hle2 rfl
  rw [mlenA_eq hv y (by omega), show ((k : Int) + 1 - 1).toNat = k by omega]
  have hml := mlen_bd hv y (i := k) (by omega)
  try simp only [go_sem, ↓reduceIte, Qa, Qb, Qc, Qd, Qe, Qf, reduceCtorEq, e10, e1, e4, e7, e2]
  exact ⟨_, W.in64 (by omega), _, W.in64 (by omega), k + 1, by omega, ⟨by push_cast; rfl, by simp only [sumTo, Int.add_assoc]⟩, by omega⟩
 ·obtain rfl : k = (mo - 1).toNat := by omega
  obtain ⟨r, hr0⟩ : ∃ r : Yr, r = ⟨mo, wk, wd, mi, of⟩ := ⟨_, rfl⟩
  have hB : begin + sumTo (c.mlen y) (mo - 1).toNat = ydB c begin y r := by rw [hr0]; rfl
  have hE2 : ydB c begin y r + c.mlen y (mo - 1).toNat = ydE c begin y r := by rw [hr0]; rfl
  rw [← hr0] at hyd ⊢
  rw [hB] at e1
  obtain ⟨b, hb0⟩ : ∃ b, b = ydB c begin y r := ⟨_, rfl⟩
  obtain ⟨e, he0⟩ : ∃ e, e = ydE c begin y r := ⟨_, rfl⟩
  have hA : ydA c begin y r = if wk = 5 then (e - 1 - (e - 1 - wd) % 7, decide (b ≤ e - 1 - (e - 1 - wd) % 7)) else (b + (wd - b) % 7 + 7 * (wk - 1), decide (b + (wd - b) % 7 + 7 * (wk - 1) < e)) := by
   unfold ydA; rw [hb0, he0, hr0]
  rw [← hb0, ← he0] at hyd
  rw [← hb0] at e1 hE2
  rw [← he0] at hE2
  rw [hA]
  refine vcall (hM R1 hle1 mo) ?_
  rintro R2 r hle2 rfl
  rw [mlenA_eq hv y (by omega)]
  try simp only [go_sem, ↓reduceIte, Qa, Qb, Qc, Qd, Qe, Qf, reduceCtorEq, e10, e1, e4, e7, e2]
  rw [show begin + sumTo (c.mlen y) (mo - 1).toNat + c.mlen y (mo - 1).toNat = e by rw [hB, ← hb0]; exact hE2]
  refine ⟨_, W.in64 (by omega), _, W.in64 (by omega), vcall (cWeekday (wd - b) (by unfold I64; omega) R2) ?_⟩
  rintro R3 r hle3 rfl
  try simp only [go_sem, ↓reduceIte, Qa, Qb, Qc, Qd, Qe, Qf, reduceCtorEq, e10, e1, e4, e7, e2]
  have h7 := Int.emod_nonneg (wd - b) (by omega : (7 : Int) ≠ 0)
  have h8 := Int.emod_lt_of_pos (wd - b) (by omega : (0 : Int) < 7)
  refine ⟨_, W.in64 (by omega), ?_⟩
  refine ⟨fun h5 => ?_, fun h5 => ?_⟩
  ·rw [if_pos h5]
   refine ⟨_, W.in64 (by omega), _, W.in64 (by omega), _, W.in64 (by omega), vcall (cWeekday (e - 1 - wd) (by unfold I64; omega) R3) ?_⟩
   rintro R4 r hle4 rfl
   try simp only [go_sem, ↓reduceIte, Qa, Qb, Qc, Qd, Qe, Qf, reduceCtorEq, e10, e1, e4, e7, e2]
   have h9 := Int.emod_nonneg (e - 1 - wd) (by omega : (7 : Int) ≠ 0)
   have h10 := Int.emod_lt_of_pos (e - 1 - wd) (by omega : (0 : Int) < 7)
   refine ⟨_, W.in64 (by omega), ?_⟩
   rfl
  ·rw [if_neg h5]
   refine ⟨_, W.in64 (by omega), _, W.in64 (by omega), _, W.in64 (by omega), ?_⟩
   rfl
end Go.Proofs.YtdgndfabdmecmaaGreat
namespace Go.Proofs.YtdgndfabdmecmaaGreat
open Go.RowKit Go.Proofs.YtdgndfabdmecmaaGreat.Vc
def nthDay (a len w n : Int) : Int := if n < 0 then a + len - 1 - (a + len - 1 - w) % 7 + (n + 1) * 7 else a + (w - a) % 7 + (n - 1) * 7
def nthOk (a len w n : Int) : Prop := n ≤ len ∧ -len ≤ n ∧ a ≤ nthDay a len w n ∧ nthDay a len w n < a + len
instance (a len w n : Int) : Decidable (nthOk a len w n) := by unfold nthOk; infer_instance
end Go.Proofs.YtdgndfabdmecmaaGreat
namespace Go.Proofs.YtdgndfabdmecmaaGreat
open Go.RowKit Go.Proofs.YtdgndfabdmecmaaGreat.Vc
theorem MonthsIn.row {R : RO} {b cap : Nat} {ms : List Int} (h : RowIn R b (ms.map (.int .i64))) (hc : (ms.map (Value.int .i64)).length ≤ cap * 1) (hb : ∀ m ∈ ms, I64 m) (hn : ms.length ≤ 140737488355328) : MonthsIn R (.slice (some ⟨b, 0, none⟩) ms.length cap) ms :=
 ⟨h.ints (by simpa using hc), hb, hn⟩
theorem MonthsIn.nil (R : RO) : MonthsIn R (.slice none 0 0) [] := ⟨Ints.nil R, by simp, by simp⟩
theorem SlK.nil (R : RO) (k : Nat) : SlK R (.slice none 0 0) k [] := ⟨none, 0, rfl, Nat.le_refl _, by simp⟩
theorem RulesIn.nil (R : RO) : RulesIn R (.slice none 0 0) [] := ⟨SlK.nil R 3, by simp, by simp⟩
theorem RulesIn.row {R : RO} {b cap : Nat} {rs : List Rule} (h : RowIn R b (rs.map rcells).flatten) (hc : (rs.map rcells).flatten.length ≤ cap * 3) (hb : ∀ r ∈ rs, I64 r.1 ∧ I64 r.2.1) (hn : rs.length ≤ 140737488355328) : RulesIn R (.slice (some ⟨b, 0, none⟩) rs.length cap) rs := by
 have := RowIn.slK (k := 3) h (by intro us hus; obtain ⟨r, _, rfl⟩ := List.mem_map.1 hus; rfl) (by decide) hc
 exact ⟨by simpa using this, hb, hn⟩
end Go.Proofs.YtdgndfabdmecmaaGreat
namespace Go.Proofs.YtdgndfabdmecmaaGreat
open Go.RowKit Go.Proofs.YtdgndfabdmecmaaGreat.Vc
theorem rLeap (c : Cal) (sm sr : Value) (R : RO) (h : CalIn R c sm sr) (y : Int) (hy : I64 y) : CallsR Tryz.prog 119 [cv c sm sr, .int .i64 y] R fun _ v => v = .bool (leapA c y) := by
 obtain ⟨am, cm, rfl, hcm, hfm⟩ := h.m.form
 obtain ⟨ar, cr, rfl, hcr, hfr⟩ := h.r.form
 refine callsT mix Tryz.func119 comp119 (by simp [Tryz.ntmps119]) ?_; simp only [go_sem, ↓reduceIte, Qa, Qb, Qc, Qd, Qe, Qf, reduceCtorEq, vc119, rs119]
 refine vcall (rValid c _ _ R h) ?_
 rintro R1 v hle rfl
 try simp only [go_sem, ↓reduceIte, Qa, Qb, Qc, Qd, Qe, Qf, reduceCtorEq]
 refine ⟨fun hv => by simp [leapA, hv], fun hv => ?_⟩
 refine vcLoop Nat (fun k => [(6, .val (.int .i64 k)), (5, .val (.bool (leapOf (c.rules.take k) y))), (2, .loc 0 0), (1, .val (.int .i64 y))])
  (fun k => [.box [.val (.int .i64 c.epoch), .val (.slice am c.months.length cm), .val (.int .i64 c.leap), .val (.slice ar c.rules.length cr)]])
  (fun k _ => k ≤ c.rules.length) (fun k => c.rules.length - k) 0 ?_ rfl ?_ ?_
 ·(try simp only [go_sem, ↓reduceIte, Qa, Qb, Qc, Qd, Qe, Qf, reduceCtorEq]) <;> (repeat' (first | rfl | trivial | constructor | (intro h; exact absurd rfl h)))
 ·omega
 ·rintro k env R2 hle2 hE hk
  (simp only [go_sem] at hE; obtain ⟨e6, e5, e2, e1⟩ := hE; simp only [go_sem, ↓reduceIte, Qa, Qb, Qc, Qd, Qe, Qf, reduceCtorEq, e6, e5, e2, e1]; dsimp only at *)
  have hrl := hv.2.2.2.1
  refine ⟨fun hlt => ⟨hlt, ?_⟩, fun hge => ?_⟩
  ·have hlt' : k < c.rules.length := by omega
   obtain ⟨ad, had, hR⟩ := hfr k hlt'
   have hok := (hv.per.2.2 c.rules[k] (List.getElem_mem hlt')).1
   have hbd := h.r.bd c.rules[k] (List.getElem_mem hlt')
   have hs := leapOf_snoc (c.rules.take k) c.rules[k] y
   rw [← List.take_succ_eq_append_getElem hlt'] at hs
   generalize hr : c.rules[k] = r at *
   obtain ⟨ev, rest, yes⟩ := r
   dsimp only at hbd hs
   simp only [okRule] at hok
   have hld := fun (R3 : RO) (hle3 : RO.le R R3) (j : Nat) (v : Value) (hj : (rcells (ev, rest, yes))[j]? = some v) => hle3 _ _ (hR j v hj)
   refine vat ad had ?_
   try simp only [go_sem, ↓reduceIte, Qa, Qb, Qc, Qd, Qe, Qf, reduceCtorEq]
   refine vload (.int .i64 ev) (by have := hle2 _ _ (hle _ _ (hR 0 _ rfl)); rwa [Addr.add_zero'] at this) ?_
   simp only [go_sem, ↓reduceIte, Qa, Qb, Qc, Qd, Qe, Qf, reduceCtorEq, e6, e5, e2, e1]
   refine ⟨hlt, vat ad had ?_⟩
   try simp only [go_sem, ↓reduceIte, Qa, Qb, Qc, Qd, Qe, Qf, reduceCtorEq]
   refine vload (.int .i64 rest) (hle2 _ _ (hle _ _ (hR 1 _ rfl))) ?_
   simp only [go_sem, ↓reduceIte, Qa, Qb, Qc, Qd, Qe, Qf, reduceCtorEq, e6, e5, e2, e1]
   refine vcall (rMod y ev (by omega) hbd.1 hy R2) ?_
   rintro R3 v hle3 rfl
   simp only [go_sem, ↓reduceIte, Qa, Qb, Qc, Qd, Qe, Qf, reduceCtorEq, e6, e5, e2, e1]
   refine ⟨fun h1 => ⟨hlt, vat ad had ?_⟩, fun h1 => ⟨_, W.in64 (by omega), k + 1, by omega, ⟨rfl, ?_⟩, by omega⟩⟩
   ·try simp only [go_sem, ↓reduceIte, Qa, Qb, Qc, Qd, Qe, Qf, reduceCtorEq]
    refine vload (.bool yes) (hle3 _ _ (hle2 _ _ (hle _ _ (hR 2 _ rfl)))) ?_
    simp only [go_sem, ↓reduceIte, Qa, Qb, Qc, Qd, Qe, Qf, reduceCtorEq, e6, e5, e2, e1]
    refine ⟨_, W.in64 (by omega), k + 1, by omega, ⟨rfl, ?_⟩, by omega⟩
    rw [hs, if_pos h1]
   ·rw [hs, if_neg h1]
  ·rw [List.take_of_length_le (by omega)]
   simp [leapA, hv]
theorem rMonthLength (c : Cal) (sm sr : Value) (R : RO) (h : CalIn R c sm sr) (y m : Int) (hy : I64 y) (hm : I64 m) : CallsR Tryz.prog 118 [cv c sm sr, .int .i64 y, .int .i64 m] R fun _ v => v = .int .i64 (mlenA c y m) := by
 have h0 := h
 obtain ⟨am, cm, rfl, hcm, hfm⟩ := h.m.form
 obtain ⟨ar, cr, rfl, hcr, hfr⟩ := h.r.form
 refine callsT mix Tryz.func118 comp118 (by simp [Tryz.ntmps118]) ?_; simp only [go_sem, ↓reduceIte, Qa, Qb, Qc, Qd, Qe, Qf, reduceCtorEq, vc118, rs118]
 refine vcall (rValid c _ _ R h) ?_
 rintro R1 v hle rfl
 try simp only [go_sem, ↓reduceIte, Qa, Qb, Qc, Qd, Qe, Qf, reduceCtorEq]
 refine ⟨fun hv => ⟨fun h1 => ⟨fun h2 => ?_, fun h2 => ?_⟩, fun h1 => ?_⟩, fun hv => ?_⟩
 ·rw [mlenA, if_neg (by omega)]
 ·have hml := hv.2.1
  have hi : (m - 1).toNat < c.months.length := by omega
  obtain ⟨ad, had, hR⟩ := hfm (m - 1).toNat hi
  have hb := hv.mlen_bd y hi
  have hin := hv.2.2.2.2.2.1 _ (List.getElem_mem hi)
  have hE : mlenA c y m = c.months[(m - 1).toNat] + if m - 1 = c.leap ∧ leapOf c.rules y = true then 1 else 0 := by
   rw [mlenA, if_pos ⟨hv, by omega, by omega⟩, Cal.mlen, List.getD_eq_getElem?_getD, List.getElem?_eq_getElem hi, Option.getD_some, show (((m - 1).toNat : Nat) : Int) = m - 1 by omega]
  refine ⟨_, W.in64 (by omega), fun h3 => ?_, fun h3 => ?_⟩
  ·refine vcall (rLeap c _ _ R1 (h0.mono hle) y hy) ?_
   rintro R2 v hle2 rfl
   try simp only [go_sem, ↓reduceIte, Qa, Qb, Qc, Qd, Qe, Qf, reduceCtorEq]
   have hla : leapA c y = leapOf c.rules y := by simp [leapA, hv]
   rw [hla]
   refine ⟨fun h4 => ⟨_, W.in64 (by omega), by omega, by omega, vat ad had ?_⟩, fun h4 => ⟨_, W.in64 (by omega), by omega, by omega, vat ad had ?_⟩⟩
   ·try simp only [go_sem, ↓reduceIte, Qa, Qb, Qc, Qd, Qe, Qf, reduceCtorEq]
    refine vload _ (hle2 _ _ (hle _ _ hR)) ?_
    try simp only [go_sem, ↓reduceIte, Qa, Qb, Qc, Qd, Qe, Qf, reduceCtorEq]
    refine ⟨_, W.in64 (by omega), ?_⟩
    rw [hE, if_pos ⟨h3, h4⟩]
   ·try simp only [go_sem, ↓reduceIte, Qa, Qb, Qc, Qd, Qe, Qf, reduceCtorEq]
    refine vload _ (hle2 _ _ (hle _ _ hR)) ?_
    try simp only [go_sem, ↓reduceIte, Qa, Qb, Qc, Qd, Qe, Qf, reduceCtorEq]
    rw [hE, if_neg (fun h => by rw [h.2] at h4; cases h4), Int.add_zero]
  ·refine ⟨_, W.in64 (by omega), by omega, by omega, vat ad had ?_⟩
   try simp only [go_sem, ↓reduceIte, Qa, Qb, Qc, Qd, Qe, Qf, reduceCtorEq]
   refine vload _ (hle _ _ hR) ?_
   try simp only [go_sem, ↓reduceIte, Qa, Qb, Qc, Qd, Qe, Qf, reduceCtorEq]
   rw [hE, if_neg (fun h => h3 h.1), Int.add_zero]
 ·rw [mlenA, if_neg (by omega)]
 ·rw [mlenA, if_neg (fun h => hv h.1)]
def Cal.common (c : Cal) : Int := sumTo (fun i => c.months.getD i 0) c.months.length
theorem sumTo_one (f : Nat → Int) (l : Nat) : ∀ n : Nat, sumTo (fun i => f i + if i = l then 1 else 0) n = sumTo f n + if l < n then 1 else 0
 | 0 => by simp [sumTo]
 | n + 1 => by
  simp only [sumTo, sumTo_one f l n]
  by_cases h1 : l < n
  ·rw [if_pos h1, if_neg (by omega), if_pos (by omega)]; omega
  ·by_cases h2 : n = l
   ·rw [if_neg h1, if_pos h2, if_pos (by omega)]; omega
   ·rw [if_neg h1, if_neg h2, if_neg (by omega)]; omega
theorem Cal.valid.ylen_eq {c : Cal} (h : c.valid) (y : Int) : c.ylen y = c.common + if leapOf c.rules y = true then 1 else 0 := by
 have h3 := h.2.2.1
 by_cases hl : leapOf c.rules y = true
 ·have h0 : c.leap ≠ -1 := fun e => by
   have := h.2.2.2.2.1 e
   rw [this] at hl
   cases hl
  have e := sumTo_one (fun i => c.months.getD i 0) c.leap.toNat c.months.length
  rw [if_pos (by omega)] at e
  rw [if_pos hl]
  unfold Cal.ylen Cal.common
  rw [← e]
  refine sumTo_congr _ fun i hi => ?_
  unfold Cal.mlen
  congr 1
  by_cases hil : (i : Int) = c.leap
  ·rw [if_pos ⟨hil, hl⟩, if_pos (by omega)]
  ·rw [if_neg (fun h => hil h.1), if_neg (by omega)]
 ·rw [if_neg hl]
  unfold Cal.ylen Cal.common
  rw [Int.add_zero]
  refine sumTo_congr _ fun i hi => ?_
  unfold Cal.mlen
  rw [if_neg (fun h => hl h.2), Int.add_zero]
theorem rCommon (c : Cal) (hv : c.valid) (sm sr : Value) (R : RO) (h : CalIn R c sm sr) : CallsR Tryz.prog 120 [cv c sm sr] R fun _ v => v = .int .i64 c.common := by
 obtain ⟨am, cm, rfl, hcm, hfm⟩ := h.m.form
 obtain ⟨ar, cr, rfl, hcr, hfr⟩ := h.r.form
 have hml := hv.2.1
 refine callsT mix Tryz.func120 comp120 (by simp [Tryz.ntmps120]) ?_; simp only [go_sem, ↓reduceIte, Qa, Qb, Qc, Qd, Qe, Qf, reduceCtorEq, vc120, rs120]
 refine vcLoop Nat (fun k => [(4, .val (.int .i64 k)), (3, .val (.int .i64 (sumTo (fun i => c.months.getD i 0) k))), (1, .loc 0 0)])
  (fun k => [.box [.val (.int .i64 c.epoch), .val (.slice am c.months.length cm), .val (.int .i64 c.leap), .val (.slice ar c.rules.length cr)]])
  (fun k _ => k ≤ c.months.length) (fun k => c.months.length - k) 0 ?_ rfl ?_ ?_
 ·(try simp only [go_sem, ↓reduceIte, Qa, Qb, Qc, Qd, Qe, Qf, reduceCtorEq]) <;> (repeat' (first | rfl | trivial | constructor | (intro h; exact absurd rfl h)))
 ·omega
 ·rintro k env R2 hle2 hE hk
  (simp only [go_sem] at hE; obtain ⟨e4, e3, e1⟩ := hE; simp only [go_sem, ↓reduceIte, Qa, Qb, Qc, Qd, Qe, Qf, reduceCtorEq, e4, e3, e1]; dsimp only at *)
  refine ⟨fun hlt => ⟨hlt, ?_⟩, fun hge => ?_⟩
  ·have hlt' : k < c.months.length := by omega
   obtain ⟨ad, had, hR⟩ := hfm k hlt'
   have hin := hv.2.2.2.2.2.1 _ (List.getElem_mem hlt')
   have hs := sumTo_bd (f := fun i => c.months.getD i 0) (a := 0) (b := 40) k (fun i hi => by
    have hi' : i < c.months.length := by omega
    have := hv.2.2.2.2.2.1 _ (List.getElem_mem hi')
    simp only [List.getD_eq_getElem?_getD, List.getElem?_eq_getElem hi', Option.getD_some]
    omega)
   refine vat ad had ?_
   try simp only [go_sem, ↓reduceIte, Qa, Qb, Qc, Qd, Qe, Qf, reduceCtorEq]
   refine vload _ (hle2 _ _ hR) ?_
   simp only [go_sem, ↓reduceIte, Qa, Qb, Qc, Qd, Qe, Qf, reduceCtorEq, e4, e3, e1]
   refine ⟨_, W.in64 (by omega), _, W.in64 (by omega), k + 1, by omega, ⟨rfl, ?_⟩, by omega⟩
   simp only [sumTo, List.getD_eq_getElem?_getD, List.getElem?_eq_getElem hlt', Option.getD_some]
  ·have : k = c.months.length := by omega
   subst this
   rfl
theorem rYearLength (c : Cal) (sm sr : Value) (R : RO) (h : CalIn R c sm sr) (y : Int) (hy : I64 y) : CallsR Tryz.prog 91 [cv c sm sr, .int .i64 y] R fun _ v => v = .int .i64 (ylenA c y) := by
 have h0 := h
 obtain ⟨am, cm, rfl, hcm, hfm⟩ := h.m.form
 obtain ⟨ar, cr, rfl, hcr, hfr⟩ := h.r.form
 refine callsT mix Tryz.func91 comp91 (by simp [Tryz.ntmps91]) ?_; simp only [go_sem, ↓reduceIte, Qa, Qb, Qc, Qd, Qe, Qf, reduceCtorEq, vc91, rs91]
 refine vcall (rValid c _ _ R h) ?_
 rintro R1 v hle rfl
 try simp only [go_sem, ↓reduceIte, Qa, Qb, Qc, Qd, Qe, Qf, reduceCtorEq]
 refine ⟨fun hv => by rw [ylenA, if_neg hv], fun hv => ?_⟩
 have hE := hv.ylen_eq y
 have hb := hv.ylen_bd y
 have hml := hv.2.1
 refine vcall (rLeap c _ _ R1 (h0.mono hle) y hy) ?_
 rintro R2 v hle2 rfl
 try simp only [go_sem, ↓reduceIte, Qa, Qb, Qc, Qd, Qe, Qf, reduceCtorEq]
 have hla : leapA c y = leapOf c.rules y := by simp [leapA, hv]
 rw [hla]
 refine ⟨fun h4 => ?_, fun h4 => ?_⟩
 ·refine vcall (rCommon c hv _ _ R2 ((h0.mono hle).mono hle2)) ?_
  rintro R3 v hle3 rfl
  try simp only [go_sem, ↓reduceIte, Qa, Qb, Qc, Qd, Qe, Qf, reduceCtorEq]
  rw [if_pos h4] at hE
  refine ⟨_, W.in64 (by omega), ?_⟩
  rw [ylenA, if_pos hv, hE]
 ·refine vcall (rCommon c hv _ _ R2 ((h0.mono hle).mono hle2)) ?_
  rintro R3 v hle3 rfl
  try simp only [go_sem, ↓reduceIte, Qa, Qb, Qc, Qd, Qe, Qf, reduceCtorEq]
  rw [if_neg (by simpa using h4), Int.add_zero] at hE
  rw [ylenA, if_pos hv, hE]
end Go.Proofs.YtdgndfabdmecmaaGreat
namespace Go.Proofs.YtdgndfabdmecmaaGreat
open Go.RowKit Go.Proofs.YtdgndfabdmecmaaGreat.Vc
theorem rCycle (c : Cal) (sm sr : Value) (R : RO) (h : CalIn R c sm sr) : CallsR Tryz.prog 92 [cv c sm sr] R fun _ v => v = cycA c := by
 have h0 := h
 obtain ⟨am, cm, rfl, hcm, hfm⟩ := h.m.form
 obtain ⟨ar, cr, rfl, hcr, hfr⟩ := h.r.form
 refine callsT mix Tryz.func92 comp92 (by simp [Tryz.ntmps92]) ?_; simp only [go_sem, ↓reduceIte, Qa, Qb, Qc, Qd, Qe, Qf, reduceCtorEq, vc92, rs92]
 refine vcall (rValid c _ _ R h) ?_
 rintro R1 v hle rfl
 try simp only [go_sem, ↓reduceIte, Qa, Qb, Qc, Qd, Qe, Qf, reduceCtorEq]
 refine ⟨fun hv => by rw [cycA, if_neg hv], fun hv => ?_⟩
 have hper := hv.per
 refine vcLoop (Nat × Int) (fun x => [(6, .val (.int .i64 x.1)), (5, .val (.int .i64 x.2)), (1, .loc 0 0)])
  (fun _ => [.box [.val (.int .i64 c.epoch), .val (.slice am c.months.length cm), .val (.int .i64 c.leap), .val (.slice ar c.rules.length cr)]])
  (fun x _ => x.1 ≤ c.rules.length ∧ 1 ≤ x.2 ∧ x.2 ≤ 400 ∧ some c.per = perFrom x.2 (c.rules.drop x.1)) (fun x => c.rules.length - x.1) (0, 1) ?_ rfl ?_ ?_
 ·(try simp only [go_sem, ↓reduceIte, Qa, Qb, Qc, Qd, Qe, Qf, reduceCtorEq]) <;> (repeat' (first | rfl | trivial | constructor | (intro h; exact absurd rfl h)))
 ·exact ⟨by omega, by omega, by omega, hper.1.symm⟩
 ·rintro ⟨k, y⟩ env R2 hle2 hE ⟨hk, hy1, hy2, hp⟩
  (simp only [go_sem] at hE; obtain ⟨e6, e5, e1⟩ := hE; simp only [go_sem, ↓reduceIte, Qa, Qb, Qc, Qd, Qe, Qf, reduceCtorEq, e6, e5, e1]; dsimp only at *)
  have hrl := hv.2.2.2.1
  refine ⟨fun hlt => ⟨hlt, ?_⟩, fun hge => ?_⟩
  ·have hlt' : k < c.rules.length := by omega
   obtain ⟨ad, had, hR⟩ := hfr k hlt'
   have hok := (hper.2.2 c.rules[k] (List.getElem_mem hlt')).1
   have hbd := h.r.bd c.rules[k] (List.getElem_mem hlt')
   have hdrop : c.rules.drop k = c.rules[k] :: c.rules.drop (k + 1) := by simp
   rw [hdrop] at hp
   generalize hr : c.rules[k] = r at *
   obtain ⟨ev, rest, yes⟩ := r
   dsimp only at hbd
   simp only [perFrom] at hp
   rw [if_pos hok] at hp
   simp only [okRule] at hok
   have hev := fun (R3 : RO) (hle3 : RO.le R2 R3) => by
    have := hle3 _ _ (hle2 _ _ (hle _ _ (hR 0 _ rfl)))
    rwa [Addr.add_zero'] at this
   refine vat ad had ?_
   try simp only [go_sem, ↓reduceIte, Qa, Qb, Qc, Qd, Qe, Qf, reduceCtorEq]
   refine vload (.int .i64 ev) (hev _ (RO.le_refl _)) ?_
   simp only [go_sem, ↓reduceIte, Qa, Qb, Qc, Qd, Qe, Qf, reduceCtorEq, e6, e5, e1]
   refine ⟨hlt, vat ad had ?_⟩
   try simp only [go_sem, ↓reduceIte, Qa, Qb, Qc, Qd, Qe, Qf, reduceCtorEq]
   refine vload (.int .i64 ev) (hev _ (RO.le_refl _)) ?_
   simp only [go_sem, ↓reduceIte, Qa, Qb, Qc, Qd, Qe, Qf, reduceCtorEq, e6, e5, e1]
   refine vcall (rGcd y ev hy1 (by omega) (by unfold I64; omega) hbd.1 R2) ?_
   rintro R3 v hle3 rfl
   simp only [go_sem, ↓reduceIte, Qa, Qb, Qc, Qd, Qe, Qf, reduceCtorEq, e6, e5, e1]
   have hg := gcd_le_left (a := y) ev hy1
   have hl := lcm_pos hy1 (show 1 ≤ ev by omega)
   have hm := rlcm hy1 (show 1 ≤ ev by omega)
   have hd := tdiv_bd y (Int.gcd y ev) hg.1
   have hl4 : (Int.lcm y ev : Int) ≤ 400 := by
    rcases Int.lt_or_le 400 (Int.lcm y ev : Int) with h9 | h9
    ·rw [if_neg (by omega)] at hp; cases hp
    ·exact h9
   rw [if_pos hl4] at hp
   refine ⟨by omega, _, W.in64 (by omega), ?_⟩
   rw [hm]
   exact ⟨_, W.in64 (by omega), _, W.in64 (by omega), (k + 1, (Int.lcm y ev : Int)), by dsimp only; omega, ⟨rfl, rfl⟩, by dsimp only; omega, by dsimp only; omega, by dsimp only; omega, by dsimp only; exact hp⟩
  ·have : c.rules.drop k = [] := List.drop_eq_nil_of_le (by omega)
   rw [this] at hp
   simp only [perFrom, Option.some.injEq] at hp
   subst hp
   refine vcLoop Nat (fun k => [(8, .val (.int .i64 (k + 1 : Int))), (7, .val (.int .i64 (c.S k))), (5, .val (.int .i64 c.per)), (1, .loc 0 0)])
    (fun _ => [.box [.val (.int .i64 c.epoch), .val (.slice am c.months.length cm), .val (.int .i64 c.leap), .val (.slice ar c.rules.length cr)]])
    (fun k _ => k ≤ c.per) (fun k => c.per.toNat - k) 0 ?_ rfl ?_ ?_
   ·simp only [go_sem, ↓reduceIte, Qa, Qb, Qc, Qd, Qe, Qf, reduceCtorEq, e5, e1]
    repeat' (first | rfl | constructor)
   ·omega
   ·rintro k2 env2 R3 hle3 hE hk2
    (simp only [go_sem] at hE; obtain ⟨f8, f7, f5, f1⟩ := hE; simp only [go_sem, ↓reduceIte, Qa, Qb, Qc, Qd, Qe, Qf, reduceCtorEq, f8, f7, f5, f1]; dsimp only at *)
    have hS := hv.S_bd k2
    have hyb := hv.ylen_bd (k2 + 1)
    have hS1 : c.S (k2 + 1) = c.S k2 + c.ylen (k2 + 1) := rfl
    refine ⟨fun hlt => ?_, fun hge => ?_⟩
    ·refine vcall (rYearLength c _ _ R3 (((h0.mono hle).mono hle2).mono hle3) (k2 + 1) (by unfold I64; omega)) ?_
     rintro R4 v hle4 rfl
     simp only [go_sem, ↓reduceIte, Qa, Qb, Qc, Qd, Qe, Qf, reduceCtorEq, f8, f7, f5, f1]
     rw [ylenA, if_pos hv, ← hS1]
     exact ⟨_, W.in64 (by omega), _, W.in64 (by omega), k2 + 1, by omega, ⟨rfl, rfl⟩, by omega⟩
    ·have : (k2 : Int) = c.per := by omega
     have e : c.S k2 = c.days := by rw [Cal.days]; congr 1; omega
     rw [e, cycA, if_pos hv]
end Go.Proofs.YtdgndfabdmecmaaGreat
namespace Go.Proofs.YtdgndfabdmecmaaGreat
open Go.Proofs.YtdgndfabdmecmaaGreat.Vc
theorem rowTr_cl (ps : List Tr) : ∀ c ∈ ps.map Tr.cells, c.length = 2 := fun c hc => by obtain ⟨x, _, rfl⟩ := List.mem_map.1 hc; rfl
theorem rowTr_len (l : List Tr) : (rowTr l).length = l.length * 2 := by
 unfold rowTr
 rw [length_flattenK (k := 2) (rowTr_cl l)]
 simp
theorem rowTr_app (a b : List Tr) : rowTr (a ++ b) = rowTr a ++ rowTr b := by simp [rowTr]
theorem rowTr_cons (t : Tr) (b : List Tr) : rowTr (t :: b) = t.cells ++ rowTr b := by simp [rowTr]
theorem rowTr_get (ps : List Tr) (i j : Nat) (hi : i < ps.length) (hj : j < 2) : (rowTr ps)[i * 2 + j]? = (ps[i].cells)[j]? :=
 getElem?_flatten (rowTr_cl ps) i j _ (by rw [List.getElem?_map, List.getElem?_eq_getElem hi]; rfl) hj
def insAtR (l : List Tr) (t : Tr) (i : Nat) : List Tr := l.take i ++ t :: l.drop i
theorem insAtR_row (l : List Tr) (t : Tr) (i : Nat) : rowTr (insAtR l t i) = rowTr (l.take i) ++ t.cells ++ rowTr (l.drop i) := by
 simp [insAtR, rowTr]
theorem insAtR_len (l : List Tr) (t : Tr) (i : Nat) : (insAtR l t i).length = l.length + 1 := by
 simp [insAtR]
 omega
theorem insAtR_perm (l : List Tr) (t : Tr) (i : Nat) : (insAtR l t i).Perm (t :: l) := by
 have := List.perm_middle (a := t) (l₁ := l.take i) (l₂ := l.drop i)
 rwa [List.take_append_drop] at this
theorem set4 (A C : List Value) (p q u v : Value) (k : Nat) (hA : A.length = k * 2) : ((((A ++ p :: q :: u :: v :: C).set ((k + 1) * 2) p).set ((k + 1) * 2 + 1) q).set (k * 2) u).set (k * 2 + 1) v = A ++ u :: v :: p :: q :: C := by
 rw [show (k + 1) * 2 = A.length + 2 by omega, ← hA]
 have e : ∀ (n : Nat) (D : List Value) (x : Value), (A ++ D).set (A.length + n) x = A ++ D.set n x := fun n D x => by
  rw [List.set_append_right _ _ (by omega), Nat.add_sub_cancel_left]
 have e0 : ∀ (D : List Value) (x : Value), (A ++ D).set A.length x = A ++ D.set 0 x := fun D x => e 0 D x
 rw [e, Nat.add_assoc, e, e0, e]
 rfl
theorem insAtR_swap (l : List Tr) (t : Tr) (k : Nat) (hk : k < l.length) :
  ((((rowTr (insAtR l t (k + 1))).set ((k + 1) * 2) (.int .i64 (l[k]).pos)).set ((k + 1) * 2 + 1) (.int .i64 (l[k]).off)).set (k * 2) (.int .i64 t.pos)).set (k * 2 + 1) (.int .i64 t.off) = rowTr (insAtR l t k) := by
 have h1 : rowTr (insAtR l t (k + 1)) = rowTr (l.take k) ++ .int .i64 (l[k]).pos :: .int .i64 (l[k]).off :: .int .i64 t.pos :: .int .i64 t.off :: rowTr (l.drop (k + 1)) := by
  rw [insAtR_row, List.take_succ_eq_append_getElem hk, rowTr_app]
  simp [rowTr, Tr.cells]
 have h2 : rowTr (insAtR l t k) = rowTr (l.take k) ++ .int .i64 t.pos :: .int .i64 t.off :: .int .i64 (l[k]).pos :: .int .i64 (l[k]).off :: rowTr (l.drop (k + 1)) := by
  rw [insAtR_row, List.drop_eq_getElem_cons hk, rowTr_cons]
  simp [Tr.cells]
 rw [h1, h2]
 exact set4 _ _ _ _ _ _ k (by rw [rowTr_len, List.length_take]; omega)
theorem rInsT (l : List Tr) (t : Tr) (hs : Sor l) (hl : l.length ≤ 100000000) (R : RO) :
  CallsS Tryz.prog 90 [.sl 0 l.length, .val (.agg t.cells.toArray)] [.row 95 2 (rowTr l)] R fun R' bs r =>
   ∃ ys, ys.Perm (t :: l) ∧ Sor ys ∧ bs = [.dead, .dead, .dead, .row 95 2 (rowTr ys)] ∧ r = .sl 3 ys.length := by
 simp only [Tr.cells]
 refine callsTS mix Tryz.func90 comp90 (by simp [Tryz.ntmps90]) rfl rfl ?_; simp only [go_sem, ↓reduceIte, Qa, Qb, Qc, Qd, Qe, Qf, reduceCtorEq, vc90, rs90]
 refine vappO (rowTr l) rfl (by rw [rowTr_len]) (by omega) ?_
 try simp only [go_sem, ↓reduceIte, Qa, Qb, Qc, Qd, Qe, Qf, reduceCtorEq, Ja, Jb, Jc, Jd, Je, Jf]
 refine ⟨_, W.in64 (by omega), ?_⟩
 refine vcLoop Nat (fun i => [(6, .val (.int .i64 i)), (5, .sl 3 (l.length + 1))]) (fun i => [.dead, .dead, .dead, .row 95 2 (rowTr (insAtR l t i))])
  (fun i _ => i ≤ l.length ∧ ∀ x ∈ l.drop i, t.pos < x.pos) (fun i => i) l.length ?_ ?_ ?_ ?_
 ·try simp only [go_sem, ↓reduceIte, Qa, Qb, Qc, Qd, Qe, Qf, reduceCtorEq]
  refine ⟨by push_cast; congr 2; omega, ?_⟩
  simp [insAtR, rowTr, blkM, Tr.cells, renB, rn]
 ·simp only [go_sem, ↓reduceIte, Qa, Qb, Qc, Qd, Qe, Qf, reduceCtorEq, inScope, rnInj_nil]
  decide
 ·exact ⟨Nat.le_refl _, by simp⟩
 rintro i env R1 hle1 hE ⟨hi, hgt⟩
 (simp only [go_sem] at hE; obtain ⟨e6, e5⟩ := hE; simp only [go_sem, ↓reduceIte, Qa, Qb, Qc, Qd, Qe, Qf, reduceCtorEq, e6, e5]; dsimp only at *)
 have hlen := rowTr_len (insAtR l t i)
 rw [insAtR_len] at hlen
 have hgi : ∀ j, j < 2 → (rowTr (insAtR l t i))[i * 2 + j]? = (t.cells)[j]? := fun j hj => by
  rw [rowTr_get _ i j (by rw [insAtR_len]; omega) hj]
  simp [insAtR, List.getElem_append, hi]
 refine ⟨fun hpos => ?_, fun hneg => ?_⟩
 ·have hi1 : i - 1 < l.length := by omega
  have hgp : ∀ j, j < 2 → (rowTr (insAtR l t i))[(i - 1) * 2 + j]? = ((l[i - 1]).cells)[j]? := fun j hj => by
   rw [rowTr_get _ (i - 1) j (by rw [insAtR_len]; omega) hj]
   congr 2
   simp only [insAtR]
   rw [List.getElem_append_left (by simp; omega), List.getElem_take]
  refine ⟨_, W.in64 (by omega), by omega, by omega, ?_⟩
  rw [show ((i : Int) - 1).toNat = i - 1 by omega]
  refine ⟨_, (hgp 0 (by omega)).trans rfl, by omega, _, (hgi 0 (by omega)).trans rfl, ?_⟩
  try simp only [go_sem, ↓reduceIte, Qa, Qb, Qc, Qd, Qe, Qf, reduceCtorEq, e6, e5]
  refine ⟨fun hsw => ?_, fun hst => ?_⟩
  ·obtain ⟨k, rfl⟩ : ∃ k, i = k + 1 := ⟨i - 1, by omega⟩
   simp only [Nat.add_sub_cancel] at hgp hsw
   refine ⟨by omega, _, (hgi 0 (by omega)).trans rfl, _, (hgi 1 (by omega)).trans rfl, ⟨rfl, rfl⟩, _, W.in64 (by omega), by omega, by omega, ?_⟩
   rw [show (((k + 1 : Nat) : Int) - 1).toNat = k by omega]
   refine ⟨_, (hgp 0 (by omega)).trans rfl, _, (hgp 1 (by omega)).trans rfl, by omega, by omega, ⟨rfl, rfl⟩, _, W.in64 (by omega), by omega, by omega, ?_⟩
   rw [show (((k + 1 : Nat) : Int) - 1).toNat = k by omega]
   refine ⟨by omega, ⟨rfl, rfl⟩, _, W.in64 (by omega), k, by omega, ⟨by congr 2; omega, insAtR_swap l t k (by omega)⟩, ?_, by omega, fun x hx => ?_⟩
   ·simp only [go_sem, ↓reduceIte, Qa, Qb, Qc, Qd, Qe, Qf, reduceCtorEq, inScope, rnInj_nil]
    decide
   ·rw [List.drop_eq_getElem_cons (by omega : k < l.length)] at hx
    rcases List.mem_cons.1 hx with rfl | hx
    ·omega
    ·exact hgt x hx
  ·refine ⟨insAtR l t i, insAtR_perm l t i, ?_, ⟨rfl, rfl, rfl, rfl⟩, by rw [insAtR_len]⟩
   unfold Sor insAtR
   unfold Sor at hs
   have hlast : ∀ x ∈ l.take i, x.pos ≤ t.pos := fun x hx => by
    obtain ⟨j, hj, rfl⟩ := List.mem_iff_getElem.1 hx
    rw [List.length_take] at hj
    rw [List.getElem_take]
    rcases Nat.lt_or_ge j (i - 1) with h1 | h1
    ·have := List.pairwise_iff_getElem.1 hs j (i - 1) (by omega) hi1 h1
     omega
    ·obtain rfl : j = i - 1 := by omega
     omega
   rw [List.pairwise_append]
   refine ⟨hs.sublist (List.take_sublist _ _), List.Pairwise.cons (fun x hx => by have := hgt x hx; omega) (hs.sublist (List.drop_sublist _ _)), fun x hx y hy => ?_⟩
   have h1 := hlast x hx
   rcases List.mem_cons.1 hy with rfl | hy
   ·exact h1
   ·have := hgt y hy; omega
 ·obtain rfl : i = 0 := by omega
  refine ⟨insAtR l t 0, insAtR_perm l t 0, ?_, ⟨rfl, rfl, rfl, rfl⟩, by rw [insAtR_len]⟩
  have : insAtR l t 0 = t :: l := by simp [insAtR]
  rw [this]
  exact List.Pairwise.cons (fun x hx => by have := hgt x (by simpa using hx); omega) hs
end Go.Proofs.YtdgndfabdmecmaaGreat
namespace Go.Proofs.YtdgndfabdmecmaaGreat
open Go.Proofs.YtdgndfabdmecmaaGreat.Vc
theorem yd_first {b d wd : Int} (hwd : 0 ≤ wd ∧ wd ≤ 6) (h1 : b ≤ d) (h2 : ∀ x, b ≤ x → x < d → x % 7 ≠ wd) (h3 : d % 7 = wd) : b + (wd - b) % 7 = d := by
 rcases Int.lt_or_le (b + (wd - b) % 7) d with h | h
 ·exact absurd (by omega) (h2 _ (by omega) h)
 ·omega
theorem yd_none {b e wd : Int} (hwd : 0 ≤ wd ∧ wd ≤ 6) (h2 : ∀ x, b ≤ x → x < e → x % 7 ≠ wd) : ¬ b + (wd - b) % 7 < e := fun h => absurd (by omega) (h2 _ (by omega) h)
theorem yd_last {e la wd : Int} (hwd : 0 ≤ wd ∧ wd ≤ 6) (h1 : la < e) (h2 : ∀ x, la < x → x < e → x % 7 ≠ wd) (h3 : la % 7 = wd) : e - 1 - (e - 1 - wd) % 7 = la := by
 rcases Int.lt_or_le la (e - 1 - (e - 1 - wd) % 7) with h | h
 ·exact absurd (by omega) (h2 _ h (by omega))
 ·omega
theorem yd_lastnone {b e wd : Int} (hwd : 0 ≤ wd ∧ wd ≤ 6) (h2 : ∀ x, b ≤ x → x < e → x % 7 ≠ wd) : ¬ b ≤ e - 1 - (e - 1 - wd) % 7 := fun h => absurd (by omega) (h2 _ h (by omega))
theorem rFind (c : Cal) (hv : c.valid) (sm sr : Value) (R : RO) (h : CalIn R c sm sr) (begin y : Int) (r : Yr) (hr : YrOK c r) (hw5 : r.week = 1 ∨ r.week = 5) (hy : 1 ≤ y ∧ y ≤ 1099511627776) (hb : 0 ≤ begin ∧ begin ≤ 1099511627776) :
  CallsR Tryz.prog 89 [cv c sm sr, .int .i64 begin, .int .i64 y, .agg r.cells.toArray] R fun _ v => ∃ d, v = .tuple #[.int .i64 d, .bool (ydA c begin y r).2] ∧ ((ydA c begin y r).2 = true → d = (ydA c begin y r).1) := by
 have hyd := yd_bd hv begin y hr
 have hM := fun R' (hle : RO.le R R') m (hm : I64 m) => rMonthLength c sm sr R' (h.mono hle) y m (by unfold I64; omega) hm
 have hm := hr.month
 have hd := hr.wday
 have h16 := hv.2.1.2
 obtain ⟨mo, wk, wd, mi, of⟩ := r
 obtain ⟨am, cm, rfl, hcm, hfm⟩ := h.m.form
 obtain ⟨ar, cr, rfl, hcr, hfr⟩ := h.r.form
 dsimp only at hm hw5 hd
 simp only [Yr.cells, cv] at hM ⊢
 refine callsT mix Tryz.func89 comp89 (by simp [Tryz.ntmps89]) ?_; simp only [go_sem, ↓reduceIte, Qa, Qb, Qc, Qd, Qe, Qf, reduceCtorEq, vc89, rs89]
 refine vcLoop Nat (fun k => [(11, .val (.int .i64 ((k : Int) + 1))), (10, .val (.int .i64 (begin + sumTo (c.mlen y) k))), (4, .loc 0 0), (7, .loc 1 0), (2, .val (.int .i64 y))])
  (fun _ => [.box [.val (.int .i64 c.epoch), .val (.slice am c.months.length cm), .val (.int .i64 c.leap), .val (.slice ar c.rules.length cr)], .box [.val (.int .i64 mo), .val (.int .i64 wk), .val (.int .i64 wd), .val (.int .i64 mi), .val (.int .i64 of)]])
  (fun k _ => k ≤ (mo - 1).toNat) (fun k => (mo - 1).toNat - k) 0 ?_ ?_ ?_ ?_
 ·try simp only [go_sem, ↓reduceIte, Qa, Qb, Qc, Qd, Qe, Qf, reduceCtorEq]
  simp [sumTo, blkM]
 ·try simp only [go_sem, ↓reduceIte, Qa, Qb, Qc, Qd, Qe, Qf, reduceCtorEq]
 ·exact Nat.zero_le _
 rintro k env R1 hle1 hE hk
 (simp only [go_sem] at hE; obtain ⟨e11, e10, e4, e7, e2⟩ := hE; simp only [go_sem, ↓reduceIte, Qa, Qb, Qc, Qd, Qe, Qf, reduceCtorEq, e11, e10, e4, e7, e2]; dsimp only at *)
 have hS := sumTo_bd (f := c.mlen y) (a := 1) (b := 41) k (fun i hi => mlen_bd hv y (by omega))
 refine ⟨fun hlt => ?_, fun hge => ?_⟩
 ·refine vcall (hM R1 hle1 ((k : Int) + 1) (by unfold I64; omega)) ?_
  rintro R2 r hle2 rfl
  rw [mlenA_eq hv y (by omega), show ((k : Int) + 1 - 1).toNat = k by omega]
  have hml := mlen_bd hv y (i := k) (by omega)
  try simp only [go_sem, ↓reduceIte, Qa, Qb, Qc, Qd, Qe, Qf, reduceCtorEq, e11, e10, e4, e7, e2]
  exact ⟨_, W.in64 (by omega), _, W.in64 (by omega), k + 1, by omega, ⟨by push_cast; rfl, by simp only [sumTo, Int.add_assoc]⟩, by omega⟩
 ·obtain rfl : k = (mo - 1).toNat := by omega
  obtain ⟨r, hr0⟩ : ∃ r : Yr, r = ⟨mo, wk, wd, mi, of⟩ := ⟨_, rfl⟩
  have hB : begin + sumTo (c.mlen y) (mo - 1).toNat = ydB c begin y r := by rw [hr0]; rfl
  have hE2 : ydB c begin y r + c.mlen y (mo - 1).toNat = ydE c begin y r := by rw [hr0]; rfl
  rw [← hr0] at hyd ⊢
  rw [hB] at e10
  obtain ⟨b, hb0⟩ : ∃ b, b = ydB c begin y r := ⟨_, rfl⟩
  obtain ⟨e, he0⟩ : ∃ e, e = ydE c begin y r := ⟨_, rfl⟩
  have hA : ydA c begin y r = if wk = 5 then (e - 1 - (e - 1 - wd) % 7, decide (b ≤ e - 1 - (e - 1 - wd) % 7)) else (b + (wd - b) % 7 + 7 * (wk - 1), decide (b + (wd - b) % 7 + 7 * (wk - 1) < e)) := by
   unfold ydA; rw [hb0, he0, hr0]
  rw [← hb0, ← he0] at hyd
  rw [← hb0] at e10 hE2
  rw [← he0] at hE2
  rw [hA]
  try simp only [go_sem, ↓reduceIte, Qa, Qb, Qc, Qd, Qe, Qf, reduceCtorEq, e11, e10, e4, e7, e2]
  rw [show begin + sumTo (c.mlen y) (mo - 1).toNat = b by rw [hB, ← hb0]]
  refine vcLoop (Int × Nat × Int) (fun x => [(14, .val (.int .i64 x.1)), (12, .val (.int .i64 x.2.1)), (13, .val (.int .i64 x.2.2)), (10, .val (.int .i64 b)), (4, .loc 0 0), (7, .loc 1 0), (2, .val (.int .i64 y))])
   (fun _ => [.box [.val (.int .i64 c.epoch), .val (.slice am c.months.length cm), .val (.int .i64 c.leap), .val (.slice ar c.rules.length cr)], .box [.val (.int .i64 mo), .val (.int .i64 wk), .val (.int .i64 wd), .val (.int .i64 mi), .val (.int .i64 of)]])
   (fun x _ => (b ≤ x.1 ∧ x.1 ≤ e ∧ (x.2.1 : Int) ≤ x.1 - b) ∧ (wk = 1 → (∀ d, b ≤ d → d < x.1 → d % 7 ≠ wd) ∧ x.2.1 = 0 ∧ x.2.2 = -1) ∧
    (wk = 5 → (x.2.2 = -1 ∧ ∀ d, b ≤ d → d < x.1 → d % 7 ≠ wd) ∨ (b ≤ x.2.2 ∧ x.2.2 < x.1 ∧ x.2.2 % 7 = wd ∧ ∀ d, x.2.2 < d → d < x.1 → d % 7 ≠ wd))) (fun x => (e - x.1).toNat) (b, 0, -1) ?_ ?_ ?_ ?_
  ·try simp only [go_sem, ↓reduceIte, Qa, Qb, Qc, Qd, Qe, Qf, reduceCtorEq, e11, e10, e4, e7, e2]
   rfl
  ·try simp only [go_sem, ↓reduceIte, Qa, Qb, Qc, Qd, Qe, Qf, reduceCtorEq]
  ·exact ⟨⟨Int.le_refl _, by omega, by simp⟩, fun _ => ⟨fun d h1 h2 => absurd h1 (by dsimp only at h2; omega), rfl, rfl⟩, fun _ => .inl ⟨rfl, fun d h1 h2 => absurd h1 (by dsimp only at h2; omega)⟩⟩
  rintro ⟨d, n, la⟩ env R2 hle2 hE ⟨⟨h1, h2, h3⟩, h4, h5⟩
  dsimp only at h1 h2 h3 h4 h5
  (simp only [go_sem] at hE; obtain ⟨e14, e12, e13, e10', e4', e7', e2'⟩ := hE; simp only [go_sem, ↓reduceIte, Qa, Qb, Qc, Qd, Qe, Qf, reduceCtorEq, e14, e12, e13, e10', e4', e7', e2']; dsimp only at *)
  refine vcall (hM R2 (RO.le_trans hle1 hle2) mo (by unfold I64; omega)) ?_
  rintro R3 r' hle3 rfl
  rw [mlenA_eq hv y (by omega)]
  try simp only [go_sem, ↓reduceIte, Qa, Qb, Qc, Qd, Qe, Qf, reduceCtorEq, e14, e12, e13, e10', e4', e7', e2']
  refine ⟨_, W.in64 (by omega), ?_⟩
  rw [hE2]
  refine ⟨fun hlt => ?_, fun hge => ?_⟩
  ·rw [Int.tmod_eq_emod_of_nonneg (by omega : 0 ≤ d)]
   refine ⟨by decide, fun hm7 => ?_, fun hm7 => ?_⟩
   ·refine ⟨_, W.in64 (by omega), fun hn => ⟨fun hlt5 => ?_, fun hge5 => ?_⟩, fun hn => ?_⟩
    ·obtain rfl : wk = 1 := by omega
     have hf := yd_first (b := b) hd h1 (h4 rfl).1 hm7
     rw [if_neg (by decide)]
     dsimp only
     rw [Int.sub_self, Int.mul_zero, Int.add_zero, hf]
     exact ⟨d, by rw [decide_eq_true hlt], fun _ => rfl⟩
    ·obtain rfl : wk = 5 := by omega
     refine ⟨_, W.in64 (by omega), (d + 1, n + 1, d), by dsimp only; omega, ⟨rfl, rfl, rfl⟩, ⟨by dsimp only; omega, by dsimp only; omega, by dsimp only; omega⟩, fun h => absurd h (by decide), fun _ => .inr ⟨h1, by dsimp only; omega, hm7, fun x hx1 hx2 => by dsimp only at hx1 hx2; omega⟩⟩
    ·have hw : wk = 5 := by
      rcases hw5 with h | h
      ·have := (h4 h).2.1; omega
      ·exact h
     refine ⟨_, W.in64 (by omega), (d + 1, n + 1, d), by dsimp only; omega, ⟨rfl, rfl, rfl⟩, ⟨by dsimp only; omega, by dsimp only; omega, by dsimp only; omega⟩, fun h => absurd h (by omega), fun _ => .inr ⟨h1, by dsimp only; omega, hm7, fun x hx1 hx2 => by dsimp only at hx1 hx2; omega⟩⟩
   ·refine ⟨_, W.in64 (by omega), (d + 1, n, la), by dsimp only; omega, ⟨rfl, rfl, rfl⟩, ⟨by dsimp only; omega, by dsimp only; omega, by dsimp only; omega⟩, fun h => ⟨fun x hx1 hx2 => ?_, (h4 h).2⟩, fun h => ?_⟩
    ·rcases Int.lt_or_le x d with hx | hx
     ·exact (h4 h).1 x hx1 hx
     ·obtain rfl : x = d := by dsimp only at hx2; omega
      exact hm7
    ·rcases h5 h with ⟨g1, g2⟩ | ⟨g1, g2, g3, g4⟩
     ·refine .inl ⟨g1, fun x hx1 hx2 => ?_⟩
      rcases Int.lt_or_le x d with hx | hx
      ·exact g2 x hx1 hx
      ·obtain rfl : x = d := by dsimp only at hx2; omega
       exact hm7
     ·refine .inr ⟨g1, by dsimp only; omega, g3, fun x hx1 hx2 => ?_⟩
      rcases Int.lt_or_le x d with hx | hx
      ·exact g4 x hx1 hx
      ·obtain rfl : x = d := by dsimp only at hx2; omega
       exact hm7
  ·obtain rfl : d = e := by omega
   refine ⟨fun hw => ?_, fun hw => ?_⟩
   ·subst hw
    rw [if_pos rfl]
    dsimp only
    rcases h5 rfl with ⟨g1, g2⟩ | ⟨g1, g2, g3, g4⟩
    ·have := yd_lastnone hd g2
     exact ⟨la, by rw [decide_eq_false this, decide_eq_false (by omega)], fun h => absurd (of_decide_eq_true h) this⟩
    ·have := yd_last hd g2 g4 g3
     rw [this]
     exact ⟨la, by rw [decide_eq_true g1, decide_eq_true (by omega)], fun _ => rfl⟩
   ·obtain rfl : wk = 1 := by omega
    have := yd_none hd (h4 rfl).1
    rw [if_neg (by decide)]
    dsimp only
    rw [Int.sub_self, Int.mul_zero, Int.add_zero, decide_eq_false this]
    exact ⟨la, rfl, fun h => absurd h (by decide)⟩
end Go.Proofs.YtdgndfabdmecmaaGreat
namespace Go.Proofs.YtdgndfabdmecmaaGreat
open Go.Proofs.YtdgndfabdmecmaaGreat.Vc
def fstP : List Tr → Int
 | [] => 0
 | x :: _ => x.pos
def turnsT (L : List Tr) (cyc t : Int) : Int := (max (t - fstP L) 0) / (cyc * 1440)
def nextT (L : List Tr) (cyc t : Int) : Int := match L.find? (fun x => decide (t ≤ x.pos + turnsT L cyc t * (cyc * 1440))) with
 | some x => x.pos + turnsT L cyc t * (cyc * 1440)
 | none => fstP L + (turnsT L cyc t + 1) * (cyc * 1440)
theorem fstP_get {L : List Tr} (h : 0 < L.length) : (L[0]'h).pos = fstP L := by
 cases L with
 | nil => simp at h
 | cons x r => rfl
theorem turnsT_pos {L : List Tr} {cyc t : Int} (hc : 1 ≤ cyc) : 0 ≤ turnsT L cyc t := Int.ediv_nonneg (by omega) (by omega)
theorem turnsT_le {L : List Tr} {cyc t : Int} (hc : 1 ≤ cyc) (ht : fstP L ≤ t) : turnsT L cyc t * (cyc * 1440) ≤ t - fstP L := by
 unfold turnsT
 have := Int.ediv_mul_le (max (t - fstP L) 0) (show cyc * 1440 ≠ 0 by omega)
 omega
theorem turnsT_lt {L : List Tr} {cyc t : Int} (hc : 1 ≤ cyc) : t < fstP L + (turnsT L cyc t + 1) * (cyc * 1440) := by
 unfold turnsT
 have := Int.lt_ediv_add_one_mul_self (max (t - fstP L) 0) (show 0 < cyc * 1440 by omega)
 omega
theorem turnsT_zero {L : List Tr} {cyc t : Int} (ht : t ≤ fstP L) : turnsT L cyc t = 0 := by
 unfold turnsT
 rw [show max (t - fstP L) 0 = 0 by omega]
 simp
theorem turnsT_bd {L : List Tr} {cyc t : Int} (hc : 1 ≤ cyc ∧ cyc ≤ 1836800) (hf : -4503599627370496 ≤ fstP L ∧ fstP L ≤ 4503599627370496) (ht : -4503599627370496 ≤ t ∧ t ≤ 4503599627370496) :
  turnsT L cyc t ≤ 9007199254740992 ∧ 0 ≤ turnsT L cyc t * (cyc * 1440) ∧ turnsT L cyc t * (cyc * 1440) ≤ 9007199254740992 := by
 have h0 := turnsT_pos (L := L) (t := t) hc.1
 have h2 : 0 ≤ turnsT L cyc t * (cyc * 1440) := Int.mul_nonneg h0 (by omega)
 have h3 : turnsT L cyc t * (cyc * 1440) ≤ 9007199254740992 := by
  rcases Int.le_total (fstP L) t with h | h
  ·have := turnsT_le (L := L) (t := t) hc.1 h; omega
  ·rw [turnsT_zero h]; simp
 refine ⟨?_, h2, h3⟩
 rcases Int.lt_or_le 9007199254740992 (turnsT L cyc t) with h | h
 ·have : turnsT L cyc t * 1 ≤ turnsT L cyc t * (cyc * 1440) := Int.mul_le_mul_of_nonneg_left (by omega) h0
  omega
 ·exact h
theorem find_at {L : List Tr} {p : Tr → Bool} {i : Nat} (hi : i < L.length) (h1 : p L[i] = true) (h2 : ∀ j (h : j < L.length), j < i → p L[j] = false) : L.find? p = some L[i] := by
 rw [List.find?_eq_some_iff_getElem]
 exact ⟨h1, i, hi, rfl, fun j hj => by simpa using h2 j (by omega) hj⟩
theorem nextT_hit {L : List Tr} {cyc t k : Int} {i : Nat} (hc : 1 ≤ cyc) (hk : k = turnsT L cyc t ∨ k = turnsT L cyc t + 1 ∧ ∀ x ∈ L, x.pos + turnsT L cyc t * (cyc * 1440) < t) (hi : i < L.length) (h1 : t ≤ L[i].pos + k * (cyc * 1440)) (h2 : ∀ j (h : j < L.length), j < i → L[j].pos + k * (cyc * 1440) < t) :
  L[i].pos + k * (cyc * 1440) = nextT L cyc t := by
 unfold nextT
 rcases hk with rfl | ⟨rfl, hn⟩
 ·rw [find_at hi (by simpa using h1) (fun j hj hji => by have := h2 j hj hji; simp; omega)]
 ·have hno : L.find? (fun x => decide (t ≤ x.pos + turnsT L cyc t * (cyc * 1440))) = none := by
   rw [List.find?_eq_none]
   intro x hx
   have := hn x hx
   simp; omega
  rw [hno]
  dsimp only
  rcases Nat.eq_zero_or_pos i with rfl | h0
  ·rw [fstP_get hi]
  ·have h3 := h2 0 (by omega) h0
   have h4 := turnsT_lt (L := L) (t := t) hc
   rw [fstP_get (by omega)] at h3
   omega
set_option maxHeartbeats 2000000 in
theorem rAfter (L : List Tr) (v : Value) (R : RO) (h : TrV R v L) (cyc t : Int) (hc : 1 ≤ cyc ∧ cyc ≤ 1836800) (ht : -2251799813685248 ≤ t ∧ t ≤ 2251799813685248) (hp : ∀ x ∈ L, -2251799813685248 ≤ x.pos ∧ x.pos ≤ 2251799813685248) :
  CallsR Tryz.prog 53 [v, .int .i64 cyc, .int .i64 t] R fun _ r => (L = [] ∧ r = .tuple #[.agg #[.int .i64 0, .int .i64 0], .bool false]) ∨ (L ≠ [] ∧ ∃ o : Int, r = .tuple #[.agg #[.int .i64 (nextT L cyc t), .int .i64 o], .bool true]) := by
 have hll := h.2
 obtain ⟨a, cap, rfl, hcap, hf⟩ := h.form
 refine callsT mix Tryz.func53 comp53 (by simp [Tryz.ntmps53]) ?_; simp only [go_sem, ↓reduceIte, Qa, Qb, Qc, Qd, Qe, Qf, reduceCtorEq, vc53, rs53]
 refine ⟨fun h0 => ?_, fun h0 => ?_⟩
 ·have hL : L = [] := List.eq_nil_of_length_eq_zero (by omega)
  first | exact .inl ⟨hL, rfl⟩ | exact .inl hL | exact hL
 have hpos : 0 < L.length := by omega
 have hne : L ≠ [] := fun e => by rw [e] at hpos; simp at hpos
 obtain ⟨ad, had, hR⟩ := hf 0 hpos
 have hp0 := hp L[0] (List.getElem_mem _)
 have hfe := fstP_get hpos
 have hfst : -4503599627370496 ≤ fstP L ∧ fstP L ≤ 4503599627370496 := by omega
 have hb := turnsT_bd (L := L) (t := t) hc hfst (by omega)
 refine ⟨_, W.in64 (by omega), ?_⟩
 have hT := turnsT_lt (L := L) (t := t) hc.1
 have hT0 := turnsT_pos (L := L) (t := t) hc.1
 refine ⟨by omega, by omega, vat ad had ?_⟩
 try simp only [go_sem, ↓reduceIte, Qa, Qb, Qc, Qd, Qe, Qf, reduceCtorEq]
 refine vload (.int .i64 L[0].pos) (by have := hR 0 _ rfl; rwa [Addr.add_zero'] at this) ?_
 try simp only [go_sem, ↓reduceIte, Qa, Qb, Qc, Qd, Qe, Qf, reduceCtorEq]
 refine ⟨fun h1 => ?_, fun h1 => ?_⟩
 ·refine ⟨by omega, by omega, vat ad had ?_⟩
  try simp only [go_sem, ↓reduceIte, Qa, Qb, Qc, Qd, Qe, Qf, reduceCtorEq]
  refine vload (.int .i64 L[0].pos) (by have := hR 0 _ rfl; rwa [Addr.add_zero'] at this) ?_
  try simp only [go_sem, ↓reduceIte, Qa, Qb, Qc, Qd, Qe, Qf, reduceCtorEq]
  have hq : (t - L[0].pos).tdiv (cyc * 1440) = turnsT L cyc t := by
   unfold turnsT
   rw [show max (t - fstP L) 0 = t - L[0].pos by omega, Int.tdiv_eq_ediv_of_nonneg (by omega)]
  refine ⟨_, W.in64 (by omega), by omega, ?_⟩
  rw [hq]
  refine ⟨_, W.in64 (by omega), ?_⟩
  obtain ⟨T, hTe⟩ : ∃ T, T = turnsT L cyc t := ⟨_, rfl⟩
  rw [← hTe]
  have hq' : turnsT L cyc t = T := hTe.symm
  rw [hq'] at hb hT hT0
  refine vcLoop Int (fun k => [(10, .val (.int .i64 k)), (8, .val (.int .i64 (cyc * 1440))), (0, .val (.slice a L.length cap)), (2, .val (.int .i64 t)), (6, .loc 0 0)])
   (fun _ => [.box [.val (.int .i64 0), .val (.int .i64 0)]]) (fun k _ => k = T ∨ k = T + 1 ∧ ∀ x ∈ L, x.pos + T * (cyc * 1440) < t) (fun k => (T + 2 - k).toNat) T ?_ ?_ ?_ ?_
  ·(try simp only [go_sem, ↓reduceIte, Qa, Qb, Qc, Qd, Qe, Qf, reduceCtorEq]) <;> (repeat' (first | rfl | trivial | constructor | (intro h; exact absurd rfl h)))
  ·try simp only [go_sem, ↓reduceIte, Qa, Qb, Qc, Qd, Qe, Qf, reduceCtorEq]
  ·exact .inl rfl
  rintro k env R1 hle1 hE hk
  (simp only [go_sem] at hE; obtain ⟨e10, e8, e0, e2, e6⟩ := hE; simp only [go_sem, ↓reduceIte, Qa, Qb, Qc, Qd, Qe, Qf, reduceCtorEq, e10, e8, e0, e2, e6]; dsimp only at *)
  have hkb : 0 ≤ k ∧ k ≤ 9007199254740993 := by omega
  have hks : 0 ≤ k * (cyc * 1440) ∧ k * (cyc * 1440) ≤ 9007199254740992 + 2644992000 := by
   rcases hk with h | ⟨h, _⟩
   ·rw [h]; omega
   ·rw [h, Int.add_mul, Int.one_mul]; omega
  refine vcLoop Nat (fun i => [(11, .val (.int .i64 i)), (10, .val (.int .i64 k)), (8, .val (.int .i64 (cyc * 1440))), (0, .val (.slice a L.length cap)), (2, .val (.int .i64 t)), (6, .loc 0 0)])
   (fun _ => [.box [.val (.int .i64 0), .val (.int .i64 0)]]) (fun i _ => i ≤ L.length ∧ ∀ j (h : j < L.length), j < i → L[j].pos + k * (cyc * 1440) < t) (fun i => L.length - i) 0 ?_ ?_ ?_ ?_
  ·try simp only [go_sem, ↓reduceIte, Qa, Qb, Qc, Qd, Qe, Qf, reduceCtorEq, e10, e8, e0, e2, e6]
   rfl
  ·try simp only [go_sem, ↓reduceIte, Qa, Qb, Qc, Qd, Qe, Qf, reduceCtorEq]
  ·exact ⟨Nat.zero_le _, fun j _ h => absurd h (by omega)⟩
  rintro i env R2 hle2 hE ⟨hi, hj⟩
  (simp only [go_sem] at hE; obtain ⟨e11, e10', e8', e0', e2', e6'⟩ := hE; simp only [go_sem, ↓reduceIte, Qa, Qb, Qc, Qd, Qe, Qf, reduceCtorEq, e11, e10', e8', e0', e2', e6']; dsimp only at *)
  refine ⟨fun hlt => ?_, fun hge => ?_⟩
  ·have hlt' : i < L.length := by omega
   obtain ⟨ad', had', hR'⟩ := hf i hlt'
   have hpi := hp L[i] (List.getElem_mem _)
   have ld0 := hle2 _ _ (hle1 _ _ (hR' 0 _ rfl))
   rw [Addr.add_zero'] at ld0
   have ld1 := hle2 _ _ (hle1 _ _ (hR' 1 _ rfl))
   refine ⟨by omega, vat ad' had' ?_⟩
   try simp only [go_sem, ↓reduceIte, Qa, Qb, Qc, Qd, Qe, Qf, reduceCtorEq]
   refine vload (.int .i64 L[i].pos) ld0 ?_
   try simp only [go_sem, ↓reduceIte, Qa, Qb, Qc, Qd, Qe, Qf, reduceCtorEq, e11, e10', e8', e0', e2', e6']
   refine ⟨_, W.in64 (by omega), _, W.in64 (by omega), fun hge => ?_, fun hnge => ?_⟩
   ·refine ⟨by omega, vat ad' had' ?_⟩
    try simp only [go_sem, ↓reduceIte, Qa, Qb, Qc, Qd, Qe, Qf, reduceCtorEq]
    refine vload (.int .i64 L[i].pos) ld0 ?_
    try simp only [go_sem, ↓reduceIte, Qa, Qb, Qc, Qd, Qe, Qf, reduceCtorEq, e11, e10', e8', e0', e2', e6']
    refine ⟨_, W.in64 (by omega), _, W.in64 (by omega), ⟨by omega, vat ad' had' ?_⟩⟩
    try simp only [go_sem, ↓reduceIte, Qa, Qb, Qc, Qd, Qe, Qf, reduceCtorEq]
    refine vload (.int .i64 L[i].off) ld1 ?_
    try simp only [go_sem, ↓reduceIte, Qa, Qb, Qc, Qd, Qe, Qf, reduceCtorEq, e11, e10', e8', e0', e2', e6']
    have hn := nextT_hit (t := t) hc.1 (by rw [hq']; exact hk) hlt' (by omega) hj
    rw [hn]
    exact .inr ⟨hne, _, rfl⟩
   ·refine ⟨_, W.in64 (by omega), i + 1, by omega, by norm_cast, by omega, fun j hjl hji => ?_⟩
    rcases Nat.lt_or_ge j i with h | h
    ·exact hj j hjl h
    ·obtain rfl : j = i := by omega
     omega
  ·obtain rfl : i = L.length := by omega
   have hkT : k = T := by
    rcases hk with h | ⟨h, _⟩
    ·exact h
    ·have := hj 0 hpos hpos
     rw [← hfe, h] at *
     omega
   subst hkT
   refine ⟨_, W.in64 (by omega), k + 1, by omega, by norm_cast, .inr ⟨rfl, fun x hx => ?_⟩⟩
   obtain ⟨j, hjl, rfl⟩ := List.mem_iff_getElem.1 hx
   exact hj j hjl hjl
 ·have hq : turnsT L cyc t = 0 := turnsT_zero (by omega)
  have hq' : turnsT L cyc t = 0 := hq
  rw [hq'] at hb hT hT0
  refine vcLoop Int (fun k => [(10, .val (.int .i64 k)), (8, .val (.int .i64 (cyc * 1440))), (0, .val (.slice a L.length cap)), (2, .val (.int .i64 t)), (6, .loc 0 0)])
   (fun _ => [.box [.val (.int .i64 0), .val (.int .i64 0)]]) (fun k _ => k = (0 : Int) ∨ k = (0 : Int) + 1 ∧ ∀ x ∈ L, x.pos + (0 : Int) * (cyc * 1440) < t) (fun k => ((0 : Int) + 2 - k).toNat) (0 : Int) ?_ ?_ ?_ ?_
  ·(try simp only [go_sem, ↓reduceIte, Qa, Qb, Qc, Qd, Qe, Qf, reduceCtorEq]) <;> (repeat' (first | rfl | trivial | constructor | (intro h; exact absurd rfl h)))
  ·try simp only [go_sem, ↓reduceIte, Qa, Qb, Qc, Qd, Qe, Qf, reduceCtorEq]
  ·exact .inl rfl
  rintro k env R1 hle1 hE hk
  (simp only [go_sem] at hE; obtain ⟨e10, e8, e0, e2, e6⟩ := hE; simp only [go_sem, ↓reduceIte, Qa, Qb, Qc, Qd, Qe, Qf, reduceCtorEq, e10, e8, e0, e2, e6]; dsimp only at *)
  have hkb : 0 ≤ k ∧ k ≤ 9007199254740993 := by omega
  have hks : 0 ≤ k * (cyc * 1440) ∧ k * (cyc * 1440) ≤ 9007199254740992 + 2644992000 := by
   rcases hk with h | ⟨h, _⟩
   ·rw [h]; omega
   ·rw [h, Int.add_mul, Int.one_mul]; omega
  refine vcLoop Nat (fun i => [(11, .val (.int .i64 i)), (10, .val (.int .i64 k)), (8, .val (.int .i64 (cyc * 1440))), (0, .val (.slice a L.length cap)), (2, .val (.int .i64 t)), (6, .loc 0 0)])
   (fun _ => [.box [.val (.int .i64 0), .val (.int .i64 0)]]) (fun i _ => i ≤ L.length ∧ ∀ j (h : j < L.length), j < i → L[j].pos + k * (cyc * 1440) < t) (fun i => L.length - i) 0 ?_ ?_ ?_ ?_
  ·try simp only [go_sem, ↓reduceIte, Qa, Qb, Qc, Qd, Qe, Qf, reduceCtorEq, e10, e8, e0, e2, e6]
   rfl
  ·try simp only [go_sem, ↓reduceIte, Qa, Qb, Qc, Qd, Qe, Qf, reduceCtorEq]
  ·exact ⟨Nat.zero_le _, fun j _ h => absurd h (by omega)⟩
  rintro i env R2 hle2 hE ⟨hi, hj⟩
  (simp only [go_sem] at hE; obtain ⟨e11, e10', e8', e0', e2', e6'⟩ := hE; simp only [go_sem, ↓reduceIte, Qa, Qb, Qc, Qd, Qe, Qf, reduceCtorEq, e11, e10', e8', e0', e2', e6']; dsimp only at *)
  refine ⟨fun hlt => ?_, fun hge => ?_⟩
  ·have hlt' : i < L.length := by omega
   obtain ⟨ad', had', hR'⟩ := hf i hlt'
   have hpi := hp L[i] (List.getElem_mem _)
   have ld0 := hle2 _ _ (hle1 _ _ (hR' 0 _ rfl))
   rw [Addr.add_zero'] at ld0
   have ld1 := hle2 _ _ (hle1 _ _ (hR' 1 _ rfl))
   refine ⟨by omega, vat ad' had' ?_⟩
   try simp only [go_sem, ↓reduceIte, Qa, Qb, Qc, Qd, Qe, Qf, reduceCtorEq]
   refine vload (.int .i64 L[i].pos) ld0 ?_
   try simp only [go_sem, ↓reduceIte, Qa, Qb, Qc, Qd, Qe, Qf, reduceCtorEq, e11, e10', e8', e0', e2', e6']
   refine ⟨_, W.in64 (by omega), _, W.in64 (by omega), fun hge => ?_, fun hnge => ?_⟩
   ·refine ⟨by omega, vat ad' had' ?_⟩
    try simp only [go_sem, ↓reduceIte, Qa, Qb, Qc, Qd, Qe, Qf, reduceCtorEq]
    refine vload (.int .i64 L[i].pos) ld0 ?_
    try simp only [go_sem, ↓reduceIte, Qa, Qb, Qc, Qd, Qe, Qf, reduceCtorEq, e11, e10', e8', e0', e2', e6']
    refine ⟨_, W.in64 (by omega), _, W.in64 (by omega), ⟨by omega, vat ad' had' ?_⟩⟩
    try simp only [go_sem, ↓reduceIte, Qa, Qb, Qc, Qd, Qe, Qf, reduceCtorEq]
    refine vload (.int .i64 L[i].off) ld1 ?_
    try simp only [go_sem, ↓reduceIte, Qa, Qb, Qc, Qd, Qe, Qf, reduceCtorEq, e11, e10', e8', e0', e2', e6']
    have hn := nextT_hit (t := t) hc.1 (by rw [hq']; exact hk) hlt' (by omega) hj
    rw [hn]
    exact .inr ⟨hne, _, rfl⟩
   ·refine ⟨_, W.in64 (by omega), i + 1, by omega, by norm_cast, by omega, fun j hjl hji => ?_⟩
    rcases Nat.lt_or_ge j i with h | h
    ·exact hj j hjl h
    ·obtain rfl : j = i := by omega
     omega
  ·obtain rfl : i = L.length := by omega
   have hkT : k = (0 : Int) := by
    rcases hk with h | ⟨h, _⟩
    ·exact h
    ·have := hj 0 hpos hpos
     rw [← hfe, h] at *
     omega
   subst hkT
   refine ⟨_, W.in64 (by omega), 1, by omega, by norm_cast, .inr ⟨rfl, fun x hx => ?_⟩⟩
   obtain ⟨j, hjl, rfl⟩ := List.mem_iff_getElem.1 hx
   exact hj j hjl hjl
end Go.Proofs.YtdgndfabdmecmaaGreat
