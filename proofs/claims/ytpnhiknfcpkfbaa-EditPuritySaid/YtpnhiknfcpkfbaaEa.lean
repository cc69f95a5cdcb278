import Derived.Test.YtpnhiknfcpkfbaaVa
import Derived.Test.YtpnhiknfcpkfbaaVcI
namespace Go.Proofs.Ytpnhiknfcpkfbaa
set_option linter.unusedSimpArgs false
set_option linter.unusedVariables false
open Go.Proofs.Ytpnhiknfcpkfbaa.Vc
/-- A move; an edit, with the parts of its rule's slice. -/
structure Mv where
  day : Int
  drop : Bool
  toDay : Int
  minute : Int
  length : Int
  deriving DecidableEq
structure Ed where
  kind : Int
  day : Int
  device : Int
  seq : Int
  mv : Mv
  minute : Int
  length : Int
  ra : Option Addr
  rn : Nat
  rc : Nat
  zone : ByteArray
def Mv.cells (m : Mv) : List Value := [.int .i64 m.day, .bool m.drop, .int .i64 m.toDay, .int .i64 m.minute, .int .i64 m.length]
def Mv.val (m : Mv) : Value := .agg #[.int .i64 m.day, .bool m.drop, .int .i64 m.toDay, .int .i64 m.minute, .int .i64 m.length]
def Ed.val (e : Ed) : Value := .agg #[.int .i64 e.kind, .int .i64 e.day, .int .i64 e.device, .int .i64 e.seq, .int .i64 e.mv.day, .bool e.mv.drop, .int .i64 e.mv.toDay, .int .i64 e.mv.minute, .int .i64 e.mv.length, .int .i64 e.minute, .int .i64 e.length, .slice e.ra e.rn e.rc, .string e.zone]
def betw (lo x hi : Int) : Bool := decide (lo ≤ x ∧ x ≤ hi)

theorem eBetween (lo x hi : Int) (R : RO) : CallsR Try.prog 39 [.int .i64 lo, .int .i64 x, .int .i64 hi] R fun _ v => v = .bool (betw lo x hi) := by
  refine callsT mix Try.func39 comp39 (by simp [Try.ntmps39]) ?_; simp only [go_sem, ↓reduceIte, Nat.reduceEqDiff, Nat.reduceAdd, Nat.reduceMul, Nat.reduceLeDiff, Nat.reduceLT, Nat.reduceBNe, reduceCtorEq, vc39, rs39]
  unfold betw
  refine ⟨fun h => ?_, fun h => ?_⟩
  · simp [h]
  · simp [h]
theorem eNaN (a : Int) (R : RO) : CallsR Try.prog 55 [.int .i64 a] R fun _ v => v = .bool false := by
  refine callsT mix Try.func55 comp55 (by simp [Try.ntmps55]) ?_; simp only [go_sem, ↓reduceIte, Nat.reduceEqDiff, Nat.reduceAdd, Nat.reduceMul, Nat.reduceLeDiff, Nat.reduceLT, Nat.reduceBNe, reduceCtorEq, vc55, rs55]
def cmpI (a b : Int) : Int := if a < b then -1 else if b < a then 1 else 0
theorem eCompare (a b : Int) (R : RO) : CallsR Try.prog 43 [.int .i64 a, .int .i64 b] R fun _ v => v = .int .i64 (cmpI a b) := by
  refine callsT mix Try.func43 comp43 (by simp [Try.ntmps43]) ?_; simp only [go_sem, ↓reduceIte, Nat.reduceEqDiff, Nat.reduceAdd, Nat.reduceMul, Nat.reduceLeDiff, Nat.reduceLT, Nat.reduceBNe, reduceCtorEq, vc43, rs43]
  refine vcall (eNaN a R) ?_
  rintro R1 v h1 rfl
  try simp only [go_sem, ↓reduceIte, Nat.reduceEqDiff, Nat.reduceAdd, Nat.reduceMul, Nat.reduceLeDiff, Nat.reduceLT, Nat.reduceBNe, reduceCtorEq]
  refine vcall (eNaN b R1) ?_
  rintro R2 v h2 rfl
  try simp only [go_sem, ↓reduceIte, Nat.reduceEqDiff, Nat.reduceAdd, Nat.reduceMul, Nat.reduceLeDiff, Nat.reduceLT, Nat.reduceBNe, reduceCtorEq]
  unfold cmpI
  refine ⟨fun h => by simp [h], fun h => ⟨fun h' => by simp [h, h'], fun h' => by simp [h, h']⟩⟩
end Go.Proofs.Ytpnhiknfcpkfbaa
namespace Go.Proofs.Ytpnhiknfcpkfbaa
set_option linter.unusedSimpArgs false
set_option linter.unusedVariables false
open Go.Proofs.Ytpnhiknfcpkfbaa.Vc
def moveOK (m : Mv) : Bool := betw 0 m.day 1099511627776 && if m.drop then decide (m.toDay = 0 ∧ m.minute = 0 ∧ m.length = 0) else betw 0 m.toDay 1099511627776 && betw 0 m.minute 1439 && betw 1 m.length 10080
theorem eValidMove (m : Mv) (R : RO) : CallsR Try.prog 34 [m.val] R fun _ v => v = .bool (moveOK m) := by
  obtain ⟨day, drop, toDay, minute, length⟩ := m
  simp only [Mv.val]
  refine callsT mix Try.func34 comp34 (by simp [Try.ntmps34]) ?_; simp only [go_sem, ↓reduceIte, Nat.reduceEqDiff, Nat.reduceAdd, Nat.reduceMul, Nat.reduceLeDiff, Nat.reduceLT, Nat.reduceBNe, reduceCtorEq, vc34, rs34]
  refine vcall (eBetween 0 day 1099511627776 R) ?_
  rintro R1 v h1 rfl
  try simp only [go_sem, ↓reduceIte, Nat.reduceEqDiff, Nat.reduceAdd, Nat.reduceMul, Nat.reduceLeDiff, Nat.reduceLT, Nat.reduceBNe, reduceCtorEq]
  unfold moveOK
  refine ⟨fun h => by simp [h], fun h => ⟨fun hd => ?_, fun hd => ?_⟩⟩
  · subst hd
    simp [h]
  · subst hd
    refine vcall (eBetween 0 toDay 1099511627776 R1) ?_
    rintro R2 v h2 rfl
    try simp only [go_sem, ↓reduceIte, Nat.reduceEqDiff, Nat.reduceAdd, Nat.reduceMul, Nat.reduceLeDiff, Nat.reduceLT, Nat.reduceBNe, reduceCtorEq]
    refine ⟨fun g1 => ?_, fun g1 => by simp [h, g1]⟩
    refine vcall (eBetween 0 minute 1439 R2) ?_
    rintro R3 v h3 rfl
    try simp only [go_sem, ↓reduceIte, Nat.reduceEqDiff, Nat.reduceAdd, Nat.reduceMul, Nat.reduceLeDiff, Nat.reduceLT, Nat.reduceBNe, reduceCtorEq]
    refine ⟨fun g2 => ?_, fun g2 => by simp [h, g1, g2]⟩
    refine vcall (eBetween 1 length 10080 R3) ?_
    rintro R4 v h4 rfl
    try simp only [go_sem, ↓reduceIte, Nat.reduceEqDiff, Nat.reduceAdd, Nat.reduceMul, Nat.reduceLeDiff, Nat.reduceLT, Nat.reduceBNe, reduceCtorEq]
    simp [h, g1, g2]
def orI : List Int → Int
  | [] => 0
  | x :: r => if x = 0 then orI r else x
theorem eOr (xs : List Int) (v : Value) (R : RO) (h : Ints R v xs) (hl : xs.length ≤ 1099511627776) : CallsR Try.prog 42 [v] R fun _ r => r = .int .i64 (orI xs) := by
  obtain ⟨a, cap, rfl, hc, hf⟩ := h.form
  refine callsT mix Try.func42 comp42 (by simp [Try.ntmps42]) ?_; simp only [go_sem, ↓reduceIte, Nat.reduceEqDiff, Nat.reduceAdd, Nat.reduceMul, Nat.reduceLeDiff, Nat.reduceLT, Nat.reduceBNe, reduceCtorEq, vc42, rs42]
  refine vcLoop Nat (fun i => [(8, .val (.int .i64 i)), (6, .val (.slice a xs.length cap)), (7, .val (.int .i64 xs.length)), (3, .val (.int .i64 0))]) (fun _ => []) (fun i _ => i ≤ xs.length ∧ orI xs = orI (xs.drop i)) (fun i => xs.length - i) 0 ?_ rfl ?_ ?_
  · (try simp only [go_sem, ↓reduceIte, Nat.reduceEqDiff, Nat.reduceAdd, Nat.reduceMul, Nat.reduceLeDiff, Nat.reduceLT, Nat.reduceBNe, reduceCtorEq]) <;> (repeat' (first | rfl | trivial | constructor | (intro h; exact absurd rfl h)))
  · exact ⟨Nat.zero_le _, by simp⟩
  rintro i env R1 hle hE ⟨hi, hp⟩
  (simp only [go_sem] at hE; obtain ⟨e8, e6, e7, e3⟩ := hE; simp only [go_sem, ↓reduceIte, Nat.reduceEqDiff, Nat.reduceAdd, Nat.reduceMul, Nat.reduceLeDiff, Nat.reduceLT, Nat.reduceBNe, reduceCtorEq, e8, e6, e7, e3]; dsimp only at *)
  refine ⟨fun hlt => ⟨hlt, ?_⟩, fun hge => ?_⟩
  · have hlt' : i < xs.length := by omega
    obtain ⟨ad, had, hR⟩ := hf i hlt'
    refine vat ad had ?_
    try simp only [go_sem, ↓reduceIte, Nat.reduceEqDiff, Nat.reduceAdd, Nat.reduceMul, Nat.reduceLeDiff, Nat.reduceLT, Nat.reduceBNe, reduceCtorEq]
    refine vload _ (hle _ _ hR) ?_
    simp only [go_sem, ↓reduceIte, Nat.reduceEqDiff, Nat.reduceAdd, Nat.reduceMul, Nat.reduceLeDiff, Nat.reduceLT, Nat.reduceBNe, reduceCtorEq, e8, e6, e7, e3]
    rw [List.drop_eq_getElem_cons hlt'] at hp
    refine ⟨fun hne => ?_, fun heq => ?_⟩
    · rw [hp, orI, if_neg hne]
    · refine ⟨_, W.in64 (by omega), i + 1, by omega, by constructor, by omega, ?_⟩
      rw [hp, orI, if_pos heq]
  · obtain rfl : i = xs.length := by omega
    rw [hp, List.drop_length]; rfl
def lessE (a b : Ed) : Bool := decide (a.seq < b.seq ∨ a.seq = b.seq ∧ a.device < b.device)
def cmpE (a b : Ed) : Int := if cmpI a.seq b.seq = 0 then cmpI a.device b.device else cmpI a.seq b.seq
theorem eCompareE (a b : Ed) (R : RO) : CallsR Try.prog 30 [a.val, b.val] R fun _ v => v = .int .i64 (cmpE a b) := by
  simp only [Ed.val]
  refine callsT mix Try.func30 comp30 (by simp [Try.ntmps30]) ?_; simp only [go_sem, ↓reduceIte, Nat.reduceEqDiff, Nat.reduceAdd, Nat.reduceMul, Nat.reduceLeDiff, Nat.reduceLT, Nat.reduceBNe, reduceCtorEq, vc30, rs30]
  refine vcall (eCompare a.seq b.seq R) ?_
  rintro R1 v h1 rfl
  try simp only [go_sem, ↓reduceIte, Nat.reduceEqDiff, Nat.reduceAdd, Nat.reduceMul, Nat.reduceLeDiff, Nat.reduceLT, Nat.reduceBNe, reduceCtorEq]
  refine vcall (eCompare a.device b.device R1) ?_
  rintro R2 v h2 rfl
  try simp only [go_sem, ↓reduceIte, Nat.reduceEqDiff, Nat.reduceAdd, Nat.reduceMul, Nat.reduceLeDiff, Nat.reduceLT, Nat.reduceBNe, reduceCtorEq]
  refine vfreeze ?_
  try simp only [go_sem, ↓reduceIte, Nat.reduceEqDiff, Nat.reduceAdd, Nat.reduceMul, Nat.reduceLeDiff, Nat.reduceLT, Nat.reduceBNe, reduceCtorEq]
  intro bb cap R3 hle hrow hcap hfr
  have hI : Ints R3 (.slice (some ⟨bb, 0, none⟩) 2 cap) [cmpI a.seq b.seq, cmpI a.device b.device] := RowIn.ints (xs := [cmpI a.seq b.seq, cmpI a.device b.device]) hrow (by simpa using hcap)
  refine vcall (eOr _ _ R3 hI (by simp)) ?_
  rintro R4 v h4 rfl
  try simp only [go_sem, ↓reduceIte, Nat.reduceEqDiff, Nat.reduceAdd, Nat.reduceMul, Nat.reduceLeDiff, Nat.reduceLT, Nat.reduceBNe, reduceCtorEq]
  unfold cmpE
  simp only [orI]
  by_cases h1 : cmpI a.seq b.seq = 0
  · by_cases h2 : cmpI a.device b.device = 0 <;> simp [h1, h2]
  · simp [h1]
theorem cmpE_neg (a b : Ed) : (cmpE a b < 0) = (a.seq < b.seq ∨ a.seq = b.seq ∧ a.device < b.device) := by
  unfold cmpE cmpI
  apply propext
  split <;> split <;> (repeat' split) <;> omega
theorem eLess (a b : Ed) (R : RO) : CallsR Try.prog 13 [a.val, b.val] R fun _ v => v = .bool (lessE a b) := by
  have h := eCompareE a b
  simp only [Ed.val] at h ⊢
  refine callsT mix Try.func13 comp13 (by simp [Try.ntmps13]) ?_; simp only [go_sem, ↓reduceIte, Nat.reduceEqDiff, Nat.reduceAdd, Nat.reduceMul, Nat.reduceLeDiff, Nat.reduceLT, Nat.reduceBNe, reduceCtorEq, vc13, rs13]
  refine vcall (h R) ?_
  rintro R1 v h1 rfl
  try simp only [go_sem, ↓reduceIte, Nat.reduceEqDiff, Nat.reduceAdd, Nat.reduceMul, Nat.reduceLeDiff, Nat.reduceLT, Nat.reduceBNe, reduceCtorEq]
  unfold lessE
  simp only [cmpE_neg]
end Go.Proofs.Ytpnhiknfcpkfbaa
namespace Go.Proofs.Ytpnhiknfcpkfbaa
set_option linter.unusedSimpArgs false
set_option linter.unusedVariables false
open Go.Proofs.Ytpnhiknfcpkfbaa.Vc
def overE (a b : Ed) : Bool :=
  if a.kind = 1 ∧ b.kind = 1 then lessE a b && decide (a.day = b.day)
  else if a.kind = 1 ∧ b.kind = 3 ∨ a.kind = 2 ∧ b.kind = 2 ∨ a.kind = 3 ∧ b.kind = 3 then lessE a b && decide (b.day ≤ a.day)
  else if a.kind = 4 ∧ b.kind = 4 then lessE a b
  else if a.kind = 1 ∧ b.kind = 5 ∨ a.kind = 2 ∧ b.kind = 5 ∨ a.kind = 3 ∧ b.kind = 5 then decide (b.day ≤ a.day)
  else if a.kind = 5 ∧ b.kind = 5 then decide (b.day < a.day) || decide (b.day = a.day) && lessE a b
  else false
theorem eOverrules (a b : Ed) (R : RO) : CallsR Try.prog 14 [a.val, b.val] R fun _ v => v = .bool (overE a b) := by
  have hL := eLess a b
  simp only [Ed.val] at hL ⊢
  refine callsT mix Try.func14 comp14 (by simp [Try.ntmps14]) ?_; simp only [go_sem, ↓reduceIte, Nat.reduceEqDiff, Nat.reduceAdd, Nat.reduceMul, Nat.reduceLeDiff, Nat.reduceLT, Nat.reduceBNe, reduceCtorEq, vc14, rs14]
  refine vcall (hL R) ?_
  rintro R1 v h1 rfl
  try simp only [go_sem, ↓reduceIte, Nat.reduceEqDiff, Nat.reduceAdd, Nat.reduceMul, Nat.reduceLeDiff, Nat.reduceLT, Nat.reduceBNe, reduceCtorEq]
  unfold overE
  generalize lessE a b = l
  clear hL
  have hb : ∀ (p q : Prop) [Decidable p] [Decidable q], ((decide p && decide q) = false) = ¬ (p ∧ q) := fun p q => by simp
  simp only [hb]
  repeat' (with_reducible first | refine And.intro ?_ ?_ | intro _)
  all_goals (congr 1)
  all_goals (try subst_vars)
  all_goals (repeat' split)
  all_goals first
    | rfl
    | (exfalso; omega)
    | (simp; done)
    | (simp; omega)
    | (cases l <;> simp <;> omega)
end Go.Proofs.Ytpnhiknfcpkfbaa
namespace Go.Proofs.Ytpnhiknfcpkfbaa
set_option linter.unusedSimpArgs false
set_option linter.unusedVariables false
open Go.Proofs.Ytpnhiknfcpkfbaa.Vc
def mvZ (m : Mv) : Bool := decide (m.day = 0) && (m.drop == false && (decide (m.toDay = 0) && (decide (m.minute = 0) && (decide (m.length = 0) && true))))
/-- What is left over has to be nothing. -/
def restZ (mv : Bool) (minute length : Int) (rn : Nat) (z : Bool) : Bool := mv && decide (minute = 0) && decide (length = 0) && decide ((rn : Int) = 0) && z
def kindE (e : Ed) : Bool :=
  if e.kind = 1 then moveOK e.mv && decide (e.mv.day = e.day) && restZ true e.minute e.length e.rn (e.zone == ⟨#[]⟩)
  else if e.kind = 2 then betw 0 e.minute 1439 && betw 1 e.length 10080 && restZ (mvZ e.mv) 0 0 e.rn (e.zone == ⟨#[]⟩)
  else if e.kind = 3 then betw 1 e.rn 64 && restZ (mvZ e.mv) e.minute e.length 0 (e.zone == ⟨#[]⟩)
  else if e.kind = 4 then decide (e.day = 0) && betw 1 e.zone.size 32 && restZ (mvZ e.mv) e.minute e.length e.rn true
  else if e.kind = 5 then restZ (mvZ e.mv) e.minute e.length e.rn (e.zone == ⟨#[]⟩)
  else false
def validE (e : Ed) : Bool := betw 0 e.device 15 && betw 1 e.seq 1099511627776 && betw 0 e.day 1099511627776 && kindE e
theorem empty_beq : ((⟨#[]⟩ : ByteArray) == ⟨#[]⟩) = true := rfl
theorem eValid (e : Ed) (R : RO) : CallsR Try.prog 27 [e.val] R fun _ v => v = .bool (validE e) := by
  have hm := eValidMove e.mv
  simp only [Ed.val, Mv.val] at hm ⊢
  refine callsT mix Try.func27 comp27 (by simp [Try.ntmps27]) ?_; simp only [go_sem, ↓reduceIte, Nat.reduceEqDiff, Nat.reduceAdd, Nat.reduceMul, Nat.reduceLeDiff, Nat.reduceLT, Nat.reduceBNe, reduceCtorEq, vc27, rs27]
  refine vcall (eBetween 0 e.device 15 R) ?_
  rintro R1 v h1 rfl
  try simp only [go_sem, ↓reduceIte, Nat.reduceEqDiff, Nat.reduceAdd, Nat.reduceMul, Nat.reduceLeDiff, Nat.reduceLT, Nat.reduceBNe, reduceCtorEq]
  refine ⟨fun g1 => ?_, fun g1 => by simp [validE, g1]⟩
  refine vcall (eBetween 1 e.seq 1099511627776 R1) ?_
  rintro R2 v h2 rfl
  try simp only [go_sem, ↓reduceIte, Nat.reduceEqDiff, Nat.reduceAdd, Nat.reduceMul, Nat.reduceLeDiff, Nat.reduceLT, Nat.reduceBNe, reduceCtorEq]
  refine ⟨fun g2 => ?_, fun g2 => by simp [validE, g1, g2]⟩
  refine vcall (eBetween 0 e.day 1099511627776 R2) ?_
  rintro R3 v h3 rfl
  try simp only [go_sem, ↓reduceIte, Nat.reduceEqDiff, Nat.reduceAdd, Nat.reduceMul, Nat.reduceLeDiff, Nat.reduceLT, Nat.reduceBNe, reduceCtorEq]
  refine ⟨fun g3 => by simp [validE, g1, g2, g3], fun g3 => ?_⟩
  have hv : validE e = kindE e := by simp [validE, g1, g2, g3]
  refine ⟨fun k1 => ?_, fun k1 => ⟨fun k2 => ?_, fun k2 => ⟨fun k3 => ?_, fun k3 => ⟨fun k4 => ?_, fun k4 => ⟨fun k5 => ?_, fun k5 => ?_⟩⟩⟩⟩⟩
  · rw [hv, kindE, if_pos k1]
    refine vcall (hm R3) ?_
    rintro R4 v h4 rfl
    try simp only [go_sem, ↓reduceIte, Nat.reduceEqDiff, Nat.reduceAdd, Nat.reduceMul, Nat.reduceLeDiff, Nat.reduceLT, Nat.reduceBNe, reduceCtorEq]
    repeat' (with_reducible first | refine And.intro ?_ ?_ | intro _)
    all_goals (simp_all [restZ, mvZ, empty_beq]; done)
  · rw [hv, kindE, if_neg k1, if_pos k2]
    refine vcall (eBetween 0 e.minute 1439 R3) ?_
    rintro R4 v h4 rfl
    try simp only [go_sem, ↓reduceIte, Nat.reduceEqDiff, Nat.reduceAdd, Nat.reduceMul, Nat.reduceLeDiff, Nat.reduceLT, Nat.reduceBNe, reduceCtorEq]
    refine ⟨fun g4 => ?_, fun g4 => by simp [g4]⟩
    refine vcall (eBetween 1 e.length 10080 R4) ?_
    rintro R5 v h5 rfl
    try simp only [go_sem, ↓reduceIte, Nat.reduceEqDiff, Nat.reduceAdd, Nat.reduceMul, Nat.reduceLeDiff, Nat.reduceLT, Nat.reduceBNe, reduceCtorEq]
    repeat' (with_reducible first | refine And.intro ?_ ?_ | intro _)
    all_goals (simp_all [restZ, mvZ, empty_beq]; done)
  · rw [hv, kindE, if_neg k1, if_neg k2, if_pos k3]
    refine vcall (eBetween 1 e.rn 64 R3) ?_
    rintro R4 v h4 rfl
    try simp only [go_sem, ↓reduceIte, Nat.reduceEqDiff, Nat.reduceAdd, Nat.reduceMul, Nat.reduceLeDiff, Nat.reduceLT, Nat.reduceBNe, reduceCtorEq]
    repeat' (with_reducible first | refine And.intro ?_ ?_ | intro _)
    all_goals (simp_all [restZ, mvZ, empty_beq]; done)
  · rw [hv, kindE, if_neg k1, if_neg k2, if_neg k3, if_pos k4]
    refine ⟨fun g4 => ?_, fun g4 => by simp [g4]⟩
    refine vcall (eBetween 1 e.zone.size 32 R3) ?_
    rintro R4 v h4 rfl
    try simp only [go_sem, ↓reduceIte, Nat.reduceEqDiff, Nat.reduceAdd, Nat.reduceMul, Nat.reduceLeDiff, Nat.reduceLT, Nat.reduceBNe, reduceCtorEq]
    repeat' (with_reducible first | refine And.intro ?_ ?_ | intro _)
    all_goals (simp_all [restZ, mvZ, empty_beq]; done)
  · rw [hv, kindE, if_neg k1, if_neg k2, if_neg k3, if_neg k4, if_pos k5]
    repeat' (with_reducible first | refine And.intro ?_ ?_ | intro _)
    all_goals (simp_all [restZ, mvZ, empty_beq]; done)
  · rw [hv, kindE, if_neg k1, if_neg k2, if_neg k3, if_neg k4, if_neg k5]
end Go.Proofs.Ytpnhiknfcpkfbaa
namespace Go.Proofs.Ytpnhiknfcpkfbaa
set_option linter.unusedSimpArgs false
set_option linter.unusedVariables false
open Go.Proofs.Ytpnhiknfcpkfbaa.Vc
/-- A node of a rule. -/
structure Nd where
  kind : Int
  cal : Int
  l : Int
  r : Int
  n : Int
  m : Int
  list : List Int
  name : ByteArray
  deriving DecidableEq
def Nd.cells (x : Nd) (lv : Value) : List Value := [.int .i64 x.kind, .int .i64 x.cal, .int .i64 x.l, .int .i64 x.r, .int .i64 x.n, .int .i64 x.m, lv, .string x.name]
def NodeV (R : RO) (cs : List Value) (x : Nd) : Prop := ∃ lv, cs = x.cells lv ∧ Ints R lv x.list ∧ x.list.length ≤ 1000000000
theorem NodeV.mono {R R' : RO} {cs : List Value} {x : Nd} (h : NodeV R cs x) (hle : RO.le R R') : NodeV R' cs x := by
  obtain ⟨lv, e, h, hl⟩ := h
  exact ⟨lv, e, h.mono hle, hl⟩
/-- A rule: a slice of nodes. -/
def RuleV (R : RO) (v : Value) (xs : List Nd) : Prop := ∃ cs : List (List Value), SlK R v 8 cs ∧ cs.length = xs.length ∧ (∀ (i : Nat) (c : List Value) (x : Nd), cs[i]? = some c → xs[i]? = some x → NodeV R c x) ∧ xs.length ≤ 1000000000
theorem RuleV.mono {R R' : RO} {v : Value} {xs : List Nd} (h : RuleV R v xs) (hle : RO.le R R') : RuleV R' v xs := by
  obtain ⟨cs, h1, h2, h3, h4⟩ := h
  exact ⟨cs, h1.mono hle, h2, fun i c x (hi : cs[i]? = some c) (hx : xs[i]? = some x) => (h3 i c x hi hx).mono hle, h4⟩
theorem eEqual (xs ys : List Int) (v u : Value) (R : RO) (h : Ints R v xs) (k : Ints R u ys) (hl : xs.length ≤ 1099511627776) : CallsR Try.prog 63 [v, u] R fun _ r => r = .bool (decide (xs = ys)) := by
  obtain ⟨a, cap, rfl, hc, hf⟩ := h.form
  obtain ⟨b, cap', rfl, hc', hf'⟩ := k.form
  refine callsT mix Try.func63 comp63 (by simp [Try.ntmps63]) ?_; simp only [go_sem, ↓reduceIte, Nat.reduceEqDiff, Nat.reduceAdd, Nat.reduceMul, Nat.reduceLeDiff, Nat.reduceLT, Nat.reduceBNe, reduceCtorEq, vc63, rs63]
  refine ⟨fun hne => ?_, fun he => ?_⟩
  · rw [decide_eq_false]; rintro rfl; exact hne rfl
  have he' : xs.length = ys.length := by omega
  refine vcLoop Nat (fun i => [(13, .val (.int .i64 i)), (0, .val (.slice a xs.length cap)), (11, .val (.slice a xs.length cap)), (12, .val (.int .i64 xs.length)), (1, .val (.slice b ys.length cap'))]) (fun _ => []) (fun i _ => i ≤ xs.length ∧ xs.take i = ys.take i) (fun i => xs.length - i) 0 ?_ rfl ?_ ?_
  · (try simp only [go_sem, ↓reduceIte, Nat.reduceEqDiff, Nat.reduceAdd, Nat.reduceMul, Nat.reduceLeDiff, Nat.reduceLT, Nat.reduceBNe, reduceCtorEq]) <;> (repeat' (first | rfl | trivial | constructor | (intro h; exact absurd rfl h)))
  · exact ⟨Nat.zero_le _, rfl⟩
  rintro i env R1 hle hE ⟨hi, hp⟩
  (simp only [go_sem] at hE; obtain ⟨e13, e0, e11, e12, e1⟩ := hE; simp only [go_sem, ↓reduceIte, Nat.reduceEqDiff, Nat.reduceAdd, Nat.reduceMul, Nat.reduceLeDiff, Nat.reduceLT, Nat.reduceBNe, reduceCtorEq, e13, e0, e11, e12, e1]; dsimp only at *)
  refine ⟨fun hlt => ⟨hlt, ?_⟩, fun hge => ?_⟩
  · have hlt' : i < xs.length := by omega
    obtain ⟨ad, had, hR⟩ := hf i hlt'
    obtain ⟨ad', had', hR'⟩ := hf' i (by omega)
    refine vat ad had ?_
    try simp only [go_sem, ↓reduceIte, Nat.reduceEqDiff, Nat.reduceAdd, Nat.reduceMul, Nat.reduceLeDiff, Nat.reduceLT, Nat.reduceBNe, reduceCtorEq]
    refine vload _ (hle _ _ hR) ?_
    simp only [go_sem, ↓reduceIte, Nat.reduceEqDiff, Nat.reduceAdd, Nat.reduceMul, Nat.reduceLeDiff, Nat.reduceLT, Nat.reduceBNe, reduceCtorEq, e13, e0, e11, e12, e1]
    refine ⟨by omega, vat ad' had' ?_⟩
    try simp only [go_sem, ↓reduceIte, Nat.reduceEqDiff, Nat.reduceAdd, Nat.reduceMul, Nat.reduceLeDiff, Nat.reduceLT, Nat.reduceBNe, reduceCtorEq]
    refine vload _ (hle _ _ hR') ?_
    simp only [go_sem, ↓reduceIte, Nat.reduceEqDiff, Nat.reduceAdd, Nat.reduceMul, Nat.reduceLeDiff, Nat.reduceLT, Nat.reduceBNe, reduceCtorEq, e13, e0, e11, e12, e1]
    refine ⟨fun hne => ?_, fun heq => ?_⟩
    · rw [decide_eq_false]; rintro rfl; exact hne rfl
    · refine ⟨_, W.in64 (by omega), i + 1, by omega, by constructor, by omega, ?_⟩
      rw [List.take_succ_eq_append_getElem hlt', List.take_succ_eq_append_getElem (by omega : i < ys.length), hp, heq]
  · obtain rfl : i = xs.length := by omega
    rw [List.take_length, he', List.take_length] at hp
    simp [hp]
theorem bytes_beq (a : ByteArray) : (a == a) = true := by
  obtain ⟨x⟩ := a
  show (x == x) = true
  exact beq_self_eq_true x
theorem bytes_eq {a b : ByteArray} (h : (a == b) = true) : a = b := by
  obtain ⟨x⟩ := a
  obtain ⟨y⟩ := b
  have h' : (x == y) = true := h
  rw [eq_of_beq h']
theorem eSameNode (x y : Nd) (cx cy : List Value) (R : RO) (hx : NodeV R cx x) (hy : NodeV R cy y) : CallsR Try.prog 62 [.agg cx.toArray, .agg cy.toArray] R fun _ r => r = .bool (decide (x = y)) := by
  obtain ⟨lv, rfl, hi, hl⟩ := hx
  obtain ⟨lu, rfl, hi', hl'⟩ := hy
  obtain ⟨kind, cal, l, r, n, m, list, name⟩ := x
  obtain ⟨kind', cal', l', r', n', m', list', name'⟩ := y
  simp only [Nd.cells] at *
  refine callsT mix Try.func62 comp62 (by simp [Try.ntmps62]) ?_; simp only [go_sem, ↓reduceIte, Nat.reduceEqDiff, Nat.reduceAdd, Nat.reduceMul, Nat.reduceLeDiff, Nat.reduceLT, Nat.reduceBNe, reduceCtorEq, vc62, rs62]
  have hb : (name == name') = decide (name = name') := by
    by_cases e : name = name'
    · subst e
      simp only [decide_true]
      exact bytes_beq name
    · rw [decide_eq_false e]
      cases hq : (name == name') with
      | false => rfl
      | true => exact absurd (bytes_eq hq) e
  rw [hb]
  simp only [Nd.mk.injEq]
  repeat' (with_reducible first | refine And.intro ?_ ?_ | intro _)
  · refine vcall (eEqual list list' lv lu R hi hi' (by omega)) ?_
    rintro R1 v h1 rfl
    try simp only [go_sem, ↓reduceIte, Nat.reduceEqDiff, Nat.reduceAdd, Nat.reduceMul, Nat.reduceLeDiff, Nat.reduceLT, Nat.reduceBNe, reduceCtorEq]
    simp_all
  all_goals simp_all
theorem SlK.form {R : RO} {v : Value} {k : Nat} {cs : List (List Value)} (h : SlK R v k cs) : ∃ a cap, v = .slice a cs.length cap ∧ cs.length ≤ cap ∧ ∀ i (hi : i < cs.length), (cs[i]).length = k ∧ ∃ ad, a = some ad ∧ ∀ j u, (cs[i])[j]? = some u → R ((ad.add (i * k)).add j) u := by
  obtain ⟨a, cap, e, hc, h⟩ := h
  exact ⟨a, cap, e, hc, fun i hi => h i _ (List.getElem?_eq_getElem hi)⟩
theorem hb62 : hasBody Try.prog 62 = true := by kernel_rfl
theorem eEqualFunc (xs ys : List Nd) (v u : Value) (R : RO) (h : RuleV R v xs) (k : RuleV R u ys) : CallsR Try.prog 61 [v, u, .func (.func 62) #[] #[]] R fun _ r => r = .bool (decide (xs = ys)) := by
  obtain ⟨cs, h1, h2, h3, h4⟩ := h
  obtain ⟨ds, k1, k2, k3, k4⟩ := k
  obtain ⟨a, cap, rfl, hc, hf⟩ := SlK.form h1
  obtain ⟨b, cap', rfl, hc', hf'⟩ := SlK.form k1
  refine callsT mix Try.func61 comp61 (by simp [Try.ntmps61]) ?_; simp only [go_sem, ↓reduceIte, Nat.reduceEqDiff, Nat.reduceAdd, Nat.reduceMul, Nat.reduceLeDiff, Nat.reduceLT, Nat.reduceBNe, reduceCtorEq, vc61, rs61]
  refine ⟨fun hne => ?_, fun he => ?_⟩
  · rw [decide_eq_false]; rintro rfl; exact hne (by omega)
  have he' : xs.length = ys.length := by omega
  refine vcLoop Nat (fun i => [(17, .val (.int .i64 i)), (0, .val (.slice a cs.length cap)), (15, .val (.slice a cs.length cap)), (16, .val (.int .i64 cs.length)), (1, .val (.slice b ds.length cap')), (2, .val (.func (.func 62) #[] #[]))]) (fun _ => []) (fun i _ => i ≤ cs.length ∧ xs.take i = ys.take i) (fun i => cs.length - i) 0 ?_ rfl ?_ ?_
  · (try simp only [go_sem, ↓reduceIte, Nat.reduceEqDiff, Nat.reduceAdd, Nat.reduceMul, Nat.reduceLeDiff, Nat.reduceLT, Nat.reduceBNe, reduceCtorEq]) <;> (repeat' (first | rfl | trivial | constructor | (intro h; exact absurd rfl h)))
  · exact ⟨Nat.zero_le _, rfl⟩
  rintro i env R1 hle hE ⟨hi, hp⟩
  (simp only [go_sem] at hE; obtain ⟨e17, e0, e15, e16, e1, e2⟩ := hE; simp only [go_sem, ↓reduceIte, Nat.reduceEqDiff, Nat.reduceAdd, Nat.reduceMul, Nat.reduceLeDiff, Nat.reduceLT, Nat.reduceBNe, reduceCtorEq, e17, e0, e15, e16, e1, e2]; dsimp only at *)
  refine ⟨fun hlt => ⟨hlt, ?_⟩, fun hge => ?_⟩
  · have hlt' : i < cs.length := by omega
    obtain ⟨hl, ad, had, hR⟩ := hf i hlt'
    obtain ⟨hl', ad', had', hR'⟩ := hf' i (by omega)
    have hx := h3 i _ _ (List.getElem?_eq_getElem hlt') (List.getElem?_eq_getElem (by omega))
    have hy := k3 i _ _ (List.getElem?_eq_getElem (by omega : i < ds.length)) (List.getElem?_eq_getElem (by omega : i < ys.length))
    obtain ⟨x, hxe⟩ : ∃ x, x = xs[i]'(by omega) := ⟨_, rfl⟩
    obtain ⟨y, hye⟩ : ∃ y, y = ys[i]'(by omega) := ⟨_, rfl⟩
    rw [← hxe] at hx
    rw [← hye] at hy
    have hx' := hx
    have hy' := hy
    obtain ⟨lv, hcx, hI, hIl⟩ := hx
    obtain ⟨lu, hcy, hI', hIl'⟩ := hy
    have ho : lv.oneCell' = true := by obtain ⟨_, _, rfl, _⟩ := hI.form; rfl
    have ho' : lu.oneCell' = true := by obtain ⟨_, _, rfl, _⟩ := hI'.form; rfl
    rw [hcx] at hR hx'
    rw [hcy] at hR' hy'
    refine vat ad had ?_
    try simp only [go_sem, ↓reduceIte, Nat.reduceEqDiff, Nat.reduceAdd, Nat.reduceMul, Nat.reduceLeDiff, Nat.reduceLT, Nat.reduceBNe, reduceCtorEq]
    refine vloadn (x.cells lv) rfl (fun j u hj => hle _ _ (hR j u hj)) ?_
    simp only [go_sem, ↓reduceIte, Nat.reduceEqDiff, Nat.reduceAdd, Nat.reduceMul, Nat.reduceLeDiff, Nat.reduceLT, Nat.reduceBNe, reduceCtorEq, Nd.cells, e17, e0, e15, e16, e1, e2]
    refine ⟨ho, by omega, vat ad' had' ?_⟩
    try simp only [go_sem, ↓reduceIte, Nat.reduceEqDiff, Nat.reduceAdd, Nat.reduceMul, Nat.reduceLeDiff, Nat.reduceLT, Nat.reduceBNe, reduceCtorEq]
    refine vloadn (y.cells lu) rfl (fun j u hj => hle _ _ (hR' j u hj)) ?_
    simp only [go_sem, ↓reduceIte, Nat.reduceEqDiff, Nat.reduceAdd, Nat.reduceMul, Nat.reduceLeDiff, Nat.reduceLT, Nat.reduceBNe, reduceCtorEq, Nd.cells, e17, e0, e15, e16, e1, e2]
    refine ⟨ho', ?_⟩
    refine ⟨hb62, vcall (eSameNode x y _ _ R1 (hx'.mono hle) (hy'.mono hle)) ?_⟩
    rintro R2 w h6 rfl
    simp only [go_sem, ↓reduceIte, Nat.reduceEqDiff, Nat.reduceAdd, Nat.reduceMul, Nat.reduceLeDiff, Nat.reduceLT, Nat.reduceBNe, reduceCtorEq, e17, e0, e15, e16, e1, e2]
    refine ⟨fun hne => ?_, fun heq => ?_⟩
    · rw [decide_eq_false]; rintro rfl; exact hne (by rw [hxe, hye])
    · refine ⟨_, W.in64 (by omega), i + 1, by omega, by constructor, by omega, ?_⟩
      rw [List.take_succ_eq_append_getElem (by omega : i < xs.length), List.take_succ_eq_append_getElem (by omega : i < ys.length), hp, ← hxe, ← hye, heq]
  · obtain rfl : i = cs.length := by omega
    rw [h2, List.take_length, he', List.take_length] at hp
    simp [hp]
end Go.Proofs.Ytpnhiknfcpkfbaa
namespace Go.Proofs.Ytpnhiknfcpkfbaa
set_option linter.unusedSimpArgs false
set_option linter.unusedVariables false
open Go.Proofs.Ytpnhiknfcpkfbaa.Vc
/-- An edit, with its rule's nodes. -/
structure De where
  kind : Int
  day : Int
  device : Int
  seq : Int
  mv : Mv
  minute : Int
  length : Int
  rule : List Nd
  zone : ByteArray
  deriving DecidableEq
def De.ed (d : De) (a : Option Addr) (n c : Nat) : Ed := ⟨d.kind, d.day, d.device, d.seq, d.mv, d.minute, d.length, a, n, c, d.zone⟩
/-- The cells 'cs' hold the edit d. -/
def EdV (R : RO) (cs : List Value) (d : De) : Prop := ∃ a n c, .agg cs.toArray = (d.ed a n c).val ∧ RuleV R (.slice a n c) d.rule
theorem EdV.mono {R R' : RO} {cs : List Value} {d : De} (h : EdV R cs d) (hle : RO.le R R') : EdV R' cs d := by
  obtain ⟨a, n, c, e, h⟩ := h
  exact ⟨a, n, c, e, h.mono hle⟩
theorem RuleV.len {R : RO} {a : Option Addr} {n c : Nat} {xs : List Nd} (h : RuleV R (.slice a n c) xs) : n = xs.length := by
  obtain ⟨cs, ⟨a', cap, e, _⟩, h2, _⟩ := h
  simp only [Value.slice.injEq] at e
  omega
theorem eSameRule (xs ys : List Nd) (v u : Value) (R : RO) (h : RuleV R v xs) (k : RuleV R u ys) : CallsR Try.prog 49 [v, u] R fun _ r => r = .bool (decide (xs = ys)) := by
  have hc := eEqualFunc xs ys v u R h k
  obtain ⟨cs, ⟨a, cap, rfl, _⟩, h2, _⟩ := h
  obtain ⟨ds, ⟨b, cap', rfl, _⟩, k2, _⟩ := k
  refine callsT mix Try.func49 comp49 (by simp [Try.ntmps49]) ?_; simp only [go_sem, ↓reduceIte, Nat.reduceEqDiff, Nat.reduceAdd, Nat.reduceMul, Nat.reduceLeDiff, Nat.reduceLT, Nat.reduceBNe, reduceCtorEq, vc49, rs49]
  refine vcall hc ?_
  rintro R1 v h1 rfl
  try simp only [go_sem, ↓reduceIte, Nat.reduceEqDiff, Nat.reduceAdd, Nat.reduceMul, Nat.reduceLeDiff, Nat.reduceLT, Nat.reduceBNe, reduceCtorEq]
theorem eSame (x y : De) (cx cy : List Value) (R : RO) (hx : EdV R cx x) (hy : EdV R cy y) : CallsR Try.prog 44 [.agg cx.toArray, .agg cy.toArray] R fun _ r => r = .bool (decide (x = y)) := by
  obtain ⟨a, n, c, e, h⟩ := hx
  obtain ⟨a', n', c', e', h'⟩ := hy
  rw [e, e']
  clear e e'
  obtain ⟨kind, day, device, seq, mv, minute, length, rule, zone⟩ := x
  obtain ⟨kind', day', device', seq', mv', minute', length', rule', zone'⟩ := y
  obtain ⟨md, mr, mt, mm, ml⟩ := mv
  obtain ⟨md', mr', mt', mm', ml'⟩ := mv'
  simp only [De.ed, Ed.val] at *
  refine callsT mix Try.func44 comp44 (by simp [Try.ntmps44]) ?_; simp only [go_sem, ↓reduceIte, Nat.reduceEqDiff, Nat.reduceAdd, Nat.reduceMul, Nat.reduceLeDiff, Nat.reduceLT, Nat.reduceBNe, reduceCtorEq, vc44, rs44]
  have hb : (zone == zone') = decide (zone = zone') := by
    by_cases e : zone = zone'
    · subst e
      simp only [decide_true]
      exact bytes_beq zone
    · rw [decide_eq_false e]
      cases hq : (zone == zone') with
      | false => rfl
      | true => exact absurd (bytes_eq hq) e
  rw [hb]
  simp only [De.mk.injEq, Mv.mk.injEq]
  repeat' (with_reducible first | refine And.intro ?_ ?_ | intro _)
  · refine vcall (eSameRule rule rule' _ _ R h h') ?_
    rintro R1 v h1 rfl
    try simp only [go_sem, ↓reduceIte, Nat.reduceEqDiff, Nat.reduceAdd, Nat.reduceMul, Nat.reduceLeDiff, Nat.reduceLT, Nat.reduceBNe, reduceCtorEq]
    simp_all
  all_goals (clear h h')
  all_goals simp_all
end Go.Proofs.Ytpnhiknfcpkfbaa
