import Derived.Test.YtojckjngjfgfdaaGreatYc
import Derived.Test.YtojckjngjfgfdaaGreatYs
import Derived.Test.YtojckjngjfgfdaaGreatVm
namespace Go.Proofs.YtojckjngjfgfdaaGreat
set_option linter.unusedSimpArgs false
set_option linter.unusedVariables false
open Go.Proofs.YtojckjngjfgfdaaGreat.Vc
/-! ### The law DeviceMatchesReference -/
theorem dSmall (d : Dv) (v : Value) (R : RO) (h : EdsV R v d.edits) : CallsR Tryz.prog 14 [.agg (dvCells d v).toArray] R fun _ r => ∃ b, r = .bool b := by
  have hdl : d.edits.length ≤ 1000000000 := by obtain ⟨_, _, _, _, h⟩ := h; exact h
  obtain ⟨a, cap, rfl, hc, hf⟩ := h.form
  simp only [dvCells]
  refine callsT mix Tryz.func14 comp14 (by simp [Tryz.ntmps14]) ?_; simp only [go_sem, ↓reduceIte, Nat.reduceEqDiff, Nat.reduceAdd, Nat.reduceMul, Nat.reduceLeDiff, Nat.reduceLT, Nat.reduceBNe, reduceCtorEq, vc14, rs14]
  refine ⟨fun _ => ⟨_, rfl⟩, fun _ => ?_⟩
  refine vcLoop Nat (fun i => [(3, .val (.int .i64 i)), (1, .loc 0 0)]) (fun _ => [.box [.val (.int .i64 d.id), .val (.int .i64 d.epoch), .val (.int .i64 d.next), .val (.slice a d.edits.length cap)]]) (fun i _ => i ≤ d.edits.length) (fun i => d.edits.length - i) 0 ?_ ?_ ?_ ?_
  · (try simp only [go_sem, ↓reduceIte, Nat.reduceEqDiff, Nat.reduceAdd, Nat.reduceMul, Nat.reduceLeDiff, Nat.reduceLT, Nat.reduceBNe, reduceCtorEq]) <;> (repeat' (first | rfl | trivial | constructor | (intro h; exact absurd rfl h)))
  · try simp only [go_sem, ↓reduceIte, Nat.reduceEqDiff, Nat.reduceAdd, Nat.reduceMul, Nat.reduceLeDiff, Nat.reduceLT, Nat.reduceBNe, reduceCtorEq]
  · exact Nat.zero_le _
  rintro i env R1 hle1 hE' hi
  have hE := hE'
  clear hE'
  (simp only [go_sem] at hE; obtain ⟨e3, e1⟩ := hE; simp only [go_sem, ↓reduceIte, Nat.reduceEqDiff, Nat.reduceAdd, Nat.reduceMul, Nat.reduceLeDiff, Nat.reduceLT, Nat.reduceBNe, reduceCtorEq, e3, e1]; dsimp only at *)
  refine ⟨fun hlt => ?_, fun hge => ⟨_, rfl⟩⟩
  have hlt' : i < d.edits.length := by omega
  obtain ⟨ad, ra, rn, rc, had, hR, _⟩ := hf i hlt'
  refine ⟨by omega, vat ad had ?_⟩
  try simp only [go_sem, ↓reduceIte, Nat.reduceEqDiff, Nat.reduceAdd, Nat.reduceMul, Nat.reduceLeDiff, Nat.reduceLT, Nat.reduceBNe, reduceCtorEq]
  refine vload (.slice ra rn rc) (hle1 _ _ (hR 11 _ rfl)) ?_
  simp only [go_sem, ↓reduceIte, Nat.reduceEqDiff, Nat.reduceAdd, Nat.reduceMul, Nat.reduceLeDiff, Nat.reduceLT, Nat.reduceBNe, reduceCtorEq, e3, e1]
  exact ⟨fun _ => ⟨_, rfl⟩, fun _ => ⟨_, W.in64 (by omega), i + 1, by omega, rfl, by omega⟩⟩
/-- What a call hands back, whether it succeeds or not. -/
def exD : Except Int Dv → Dv
  | .ok d => d
  | .error _ => ⟨0, 0, 0, []⟩
def exK : Except Int Dv → Int
  | .ok _ => 0
  | .error k => k
theorem DvR.uni {R : RO} {r : Value} {x : Except Int Dv} (h : DvR R r x) : ∃ a c, r = .tuple #[.agg (dvCells (exD x) (.slice a (exD x).edits.length c)).toArray, .int .i64 (exK x)] ∧ EdsV R (.slice a (exD x).edits.length c) (exD x).edits := by
  rcases h.shape with ⟨k, rfl, rfl⟩ | ⟨d, a, c, rfl, rfl, hd⟩
  · exact ⟨none, 0, rfl, EdsV.nil _⟩
  · exact ⟨a, c, rfl, hd⟩
set_option maxHeartbeats 16000000 in
theorem lMatches (R : RO) (d0 d1 : Dv) (v0 v1 : Value) (h0 : EdsV R v0 d0.edits) (h1 : EdsV R v1 d1.edits) (x : De) (ra : Option Addr) (rn rc : Nat) (hx : RuleV R (.slice ra rn rc) x.rule) (n : Int) :
    CallsR Tryz.prog 3 [.agg (dvCells d0 v0 ++ dvCells d1 v1).toArray, .agg ((x.ed ra rn rc).cells).toArray, .int .i64 n] R fun _ v => v = .bool true := by
  obtain ⟨a0, c0, rfl, _⟩ := h0.form
  obtain ⟨a1, c1, rfl, _⟩ := h1.form
  simp only [dvCells, Ed.cells, De.ed, List.cons_append, List.nil_append]
  refine callsT mix Tryz.func3 comp3 (by simp [Tryz.ntmps3]) ?_; simp only [go_sem, ↓reduceIte, Nat.reduceEqDiff, Nat.reduceAdd, Nat.reduceMul, Nat.reduceLeDiff, Nat.reduceLT, Nat.reduceBNe, reduceCtorEq, vc3, rs3]
  refine vcall (dSanity R) ?_
  rintro R1 v hle1 rfl
  try simp only [go_sem, ↓reduceIte, Nat.reduceEqDiff, Nat.reduceAdd, Nat.reduceMul, Nat.reduceLeDiff, Nat.reduceLT, Nat.reduceBNe, reduceCtorEq, Int.reduceLE, Int.reduceLT, Int.reduceToNat, Int.cast_ofNat_Int, Int.reduceEq, Int.reduceNe]
  have hm0 := dSmall d0 _ R1 (h0.mono hle1)
  simp only [dvCells] at hm0
  refine vcall hm0 ?_
  rintro R2 r hle2 ⟨b0, rfl⟩
  cases b0 with
  | false => try simp only [go_sem, ↓reduceIte, Nat.reduceEqDiff, Nat.reduceAdd, Nat.reduceMul, Nat.reduceLeDiff, Nat.reduceLT, Nat.reduceBNe, reduceCtorEq, Int.reduceLE, Int.reduceLT, Int.reduceToNat, Int.cast_ofNat_Int, Int.reduceEq, Int.reduceNe]
  | true =>
  try simp only [go_sem, ↓reduceIte, Nat.reduceEqDiff, Nat.reduceAdd, Nat.reduceMul, Nat.reduceLeDiff, Nat.reduceLT, Nat.reduceBNe, reduceCtorEq, Int.reduceLE, Int.reduceLT, Int.reduceToNat, Int.cast_ofNat_Int, Int.reduceEq, Int.reduceNe]
  have hm1 := dSmall d1 _ R2 (h1.mono (RO.le_trans hle1 hle2))
  simp only [dvCells] at hm1
  refine vcall hm1 ?_
  rintro R3 r hle3 ⟨b1, rfl⟩
  cases b1 with
  | false => try simp only [go_sem, ↓reduceIte, Nat.reduceEqDiff, Nat.reduceAdd, Nat.reduceMul, Nat.reduceLeDiff, Nat.reduceLT, Nat.reduceBNe, reduceCtorEq, Int.reduceLE, Int.reduceLT, Int.reduceToNat, Int.cast_ofNat_Int, Int.reduceEq, Int.reduceNe]
  | true =>
  try simp only [go_sem, ↓reduceIte, Nat.reduceEqDiff, Nat.reduceAdd, Nat.reduceMul, Nat.reduceLeDiff, Nat.reduceLT, Nat.reduceBNe, reduceCtorEq, Int.reduceLE, Int.reduceLT, Int.reduceToNat, Int.cast_ofNat_Int, Int.reduceEq, Int.reduceNe]
  intro _
  have k0 := dNew n R3
  try simp only [dvCells, Ed.cells, De.ed] at k0
  refine vcall k0 ?_
  intro R4 r hle4 hr
  obtain ⟨p0a, p0c, rfl, u0⟩ := hr.uni
  simp only [dvCells]
  try simp only [go_sem, ↓reduceIte, Nat.reduceEqDiff, Nat.reduceAdd, Nat.reduceMul, Nat.reduceLeDiff, Nat.reduceLT, Nat.reduceBNe, reduceCtorEq, Int.reduceLE, Int.reduceLT, Int.reduceToNat, Int.cast_ofNat_Int, Int.reduceEq, Int.reduceNe]
  have k1 := rNewD n R4
  try simp only [dvCells, Ed.cells, De.ed] at k1
  refine vcall k1 ?_
  intro R5 r hle5 hr
  obtain ⟨p1a, p1c, rfl, u1⟩ := hr.uni
  simp only [dvCells]
  try simp only [go_sem, ↓reduceIte, Nat.reduceEqDiff, Nat.reduceAdd, Nat.reduceMul, Nat.reduceLeDiff, Nat.reduceLT, Nat.reduceBNe, reduceCtorEq, Int.reduceLE, Int.reduceLT, Int.reduceToNat, Int.cast_ofNat_Int, Int.reduceEq, Int.reduceNe]
  have k2 := dAdd d0 _ x ra rn rc R5 (h0.mono (RO.le_trans hle1 (RO.le_trans hle2 (RO.le_trans hle3 (RO.le_trans hle4 hle5))))) (hx.mono (RO.le_trans hle1 (RO.le_trans hle2 (RO.le_trans hle3 (RO.le_trans hle4 hle5)))))
  try simp only [dvCells, Ed.cells, De.ed] at k2
  refine vcall k2 ?_
  intro R6 r hle6 hr
  obtain ⟨p2a, p2c, rfl, u2⟩ := hr.uni
  simp only [dvCells]
  try simp only [go_sem, ↓reduceIte, Nat.reduceEqDiff, Nat.reduceAdd, Nat.reduceMul, Nat.reduceLeDiff, Nat.reduceLT, Nat.reduceBNe, reduceCtorEq, Int.reduceLE, Int.reduceLT, Int.reduceToNat, Int.cast_ofNat_Int, Int.reduceEq, Int.reduceNe]
  have k3 := rAddD d0 _ x ra rn rc R6 (h0.mono (RO.le_trans hle1 (RO.le_trans hle2 (RO.le_trans hle3 (RO.le_trans hle4 (RO.le_trans hle5 hle6)))))) (hx.mono (RO.le_trans hle1 (RO.le_trans hle2 (RO.le_trans hle3 (RO.le_trans hle4 (RO.le_trans hle5 hle6))))))
  try simp only [dvCells, Ed.cells, De.ed] at k3
  refine vcall k3 ?_
  intro R7 r hle7 hr
  obtain ⟨p3a, p3c, rfl, u3⟩ := hr.uni
  simp only [dvCells]
  try simp only [go_sem, ↓reduceIte, Nat.reduceEqDiff, Nat.reduceAdd, Nat.reduceMul, Nat.reduceLeDiff, Nat.reduceLT, Nat.reduceBNe, reduceCtorEq, Int.reduceLE, Int.reduceLT, Int.reduceToNat, Int.cast_ofNat_Int, Int.reduceEq, Int.reduceNe]
  have k4 := dSync d0 d1 _ _ R7 (h0.mono (RO.le_trans hle1 (RO.le_trans hle2 (RO.le_trans hle3 (RO.le_trans hle4 (RO.le_trans hle5 (RO.le_trans hle6 hle7))))))) (h1.mono (RO.le_trans hle1 (RO.le_trans hle2 (RO.le_trans hle3 (RO.le_trans hle4 (RO.le_trans hle5 (RO.le_trans hle6 hle7)))))))
  try simp only [dvCells, Ed.cells, De.ed] at k4
  refine vcall k4 ?_
  intro R8 r hle8 hr
  obtain ⟨p4a, p4c, rfl, u4⟩ := hr.uni
  simp only [dvCells]
  try simp only [go_sem, ↓reduceIte, Nat.reduceEqDiff, Nat.reduceAdd, Nat.reduceMul, Nat.reduceLeDiff, Nat.reduceLT, Nat.reduceBNe, reduceCtorEq, Int.reduceLE, Int.reduceLT, Int.reduceToNat, Int.cast_ofNat_Int, Int.reduceEq, Int.reduceNe]
  have k5 := rSyncD d0 d1 _ _ R8 (h0.mono (RO.le_trans hle1 (RO.le_trans hle2 (RO.le_trans hle3 (RO.le_trans hle4 (RO.le_trans hle5 (RO.le_trans hle6 (RO.le_trans hle7 hle8)))))))) (h1.mono (RO.le_trans hle1 (RO.le_trans hle2 (RO.le_trans hle3 (RO.le_trans hle4 (RO.le_trans hle5 (RO.le_trans hle6 (RO.le_trans hle7 hle8))))))))
  try simp only [dvCells, Ed.cells, De.ed] at k5
  refine vcall k5 ?_
  intro R9 r hle9 hr
  obtain ⟨p5a, p5c, rfl, u5⟩ := hr.uni
  simp only [dvCells]
  try simp only [go_sem, ↓reduceIte, Nat.reduceEqDiff, Nat.reduceAdd, Nat.reduceMul, Nat.reduceLeDiff, Nat.reduceLT, Nat.reduceBNe, reduceCtorEq, Int.reduceLE, Int.reduceLT, Int.reduceToNat, Int.cast_ofNat_Int, Int.reduceEq, Int.reduceNe]
  have k6 := dRestore d0 _ n R9 (h0.mono (RO.le_trans hle1 (RO.le_trans hle2 (RO.le_trans hle3 (RO.le_trans hle4 (RO.le_trans hle5 (RO.le_trans hle6 (RO.le_trans hle7 (RO.le_trans hle8 hle9)))))))))
  try simp only [dvCells, Ed.cells, De.ed] at k6
  refine vcall k6 ?_
  intro R10 r hle10 hr
  obtain ⟨p6a, p6c, rfl, u6⟩ := hr.uni
  simp only [dvCells]
  try simp only [go_sem, ↓reduceIte, Nat.reduceEqDiff, Nat.reduceAdd, Nat.reduceMul, Nat.reduceLeDiff, Nat.reduceLT, Nat.reduceBNe, reduceCtorEq, Int.reduceLE, Int.reduceLT, Int.reduceToNat, Int.cast_ofNat_Int, Int.reduceEq, Int.reduceNe]
  have k7 := rRestoreD d0 _ n R10 (h0.mono (RO.le_trans hle1 (RO.le_trans hle2 (RO.le_trans hle3 (RO.le_trans hle4 (RO.le_trans hle5 (RO.le_trans hle6 (RO.le_trans hle7 (RO.le_trans hle8 (RO.le_trans hle9 hle10))))))))))
  try simp only [dvCells, Ed.cells, De.ed] at k7
  refine vcall k7 ?_
  intro R11 r hle11 hr
  obtain ⟨p7a, p7c, rfl, u7⟩ := hr.uni
  simp only [dvCells]
  try simp only [go_sem, ↓reduceIte, Nat.reduceEqDiff, Nat.reduceAdd, Nat.reduceMul, Nat.reduceLeDiff, Nat.reduceLT, Nat.reduceBNe, reduceCtorEq, Int.reduceLE, Int.reduceLT, Int.reduceToNat, Int.cast_ofNat_Int, Int.reduceEq, Int.reduceNe]
  have s0 := rSameDv (exD (dvNew n)) (exD (dvNew n)) _ _ R11 (u0.mono (RO.le_trans hle5 (RO.le_trans hle6 (RO.le_trans hle7 (RO.le_trans hle8 (RO.le_trans hle9 (RO.le_trans hle10 hle11))))))) (u1.mono (RO.le_trans hle6 (RO.le_trans hle7 (RO.le_trans hle8 (RO.le_trans hle9 (RO.le_trans hle10 hle11))))))
  simp only [dvCells] at s0
  refine vcall s0 ?_
  rintro R12 v hle12 rfl
  try rw [decide_eq_true (Eq.refl _)]
  try simp only [go_sem, ↓reduceIte, Nat.reduceEqDiff, Nat.reduceAdd, Nat.reduceMul, Nat.reduceLeDiff, Nat.reduceLT, Nat.reduceBNe, reduceCtorEq, Int.reduceLE, Int.reduceLT, Int.reduceToNat, Int.cast_ofNat_Int, Int.reduceEq, Int.reduceNe]
  have s1 := rSameDv (exD (dvAdd d0 x)) (exD (dvAdd d0 x)) _ _ R12 (u2.mono (RO.le_trans hle7 (RO.le_trans hle8 (RO.le_trans hle9 (RO.le_trans hle10 (RO.le_trans hle11 hle12)))))) (u3.mono (RO.le_trans hle8 (RO.le_trans hle9 (RO.le_trans hle10 (RO.le_trans hle11 hle12)))))
  simp only [dvCells] at s1
  refine vcall s1 ?_
  rintro R13 v hle13 rfl
  try rw [decide_eq_true (Eq.refl _)]
  try simp only [go_sem, ↓reduceIte, Nat.reduceEqDiff, Nat.reduceAdd, Nat.reduceMul, Nat.reduceLeDiff, Nat.reduceLT, Nat.reduceBNe, reduceCtorEq, Int.reduceLE, Int.reduceLT, Int.reduceToNat, Int.cast_ofNat_Int, Int.reduceEq, Int.reduceNe]
  have s2 := rSameDv (exD (dvSync d0 d1)) (exD (dvSync d0 d1)) _ _ R13 (u4.mono (RO.le_trans hle9 (RO.le_trans hle10 (RO.le_trans hle11 (RO.le_trans hle12 hle13))))) (u5.mono (RO.le_trans hle10 (RO.le_trans hle11 (RO.le_trans hle12 hle13))))
  simp only [dvCells] at s2
  refine vcall s2 ?_
  rintro R14 v hle14 rfl
  try rw [decide_eq_true (Eq.refl _)]
  try simp only [go_sem, ↓reduceIte, Nat.reduceEqDiff, Nat.reduceAdd, Nat.reduceMul, Nat.reduceLeDiff, Nat.reduceLT, Nat.reduceBNe, reduceCtorEq, Int.reduceLE, Int.reduceLT, Int.reduceToNat, Int.cast_ofNat_Int, Int.reduceEq, Int.reduceNe]
  have s3 := rSameDv (exD (dvRestore d0 n)) (exD (dvRestore d0 n)) _ _ R14 (u6.mono (RO.le_trans hle11 (RO.le_trans hle12 (RO.le_trans hle13 hle14)))) (u7.mono (RO.le_trans hle12 (RO.le_trans hle13 hle14)))
  simp only [dvCells] at s3
  refine vcall s3 ?_
  rintro R15 v hle15 rfl
  try rw [decide_eq_true (Eq.refl _)]
  try simp only [go_sem, ↓reduceIte, Nat.reduceEqDiff, Nat.reduceAdd, Nat.reduceMul, Nat.reduceLeDiff, Nat.reduceLT, Nat.reduceBNe, reduceCtorEq, Int.reduceLE, Int.reduceLT, Int.reduceToNat, Int.cast_ofNat_Int, Int.reduceEq, Int.reduceNe]
  have l0 := dLacks d0 d1 _ _ R15 (h0.mono (RO.le_trans hle1 (RO.le_trans hle2 (RO.le_trans hle3 (RO.le_trans hle4 (RO.le_trans hle5 (RO.le_trans hle6 (RO.le_trans hle7 (RO.le_trans hle8 (RO.le_trans hle9 (RO.le_trans hle10 (RO.le_trans hle11 (RO.le_trans hle12 (RO.le_trans hle13 (RO.le_trans hle14 hle15))))))))))))))) (h1.mono (RO.le_trans hle1 (RO.le_trans hle2 (RO.le_trans hle3 (RO.le_trans hle4 (RO.le_trans hle5 (RO.le_trans hle6 (RO.le_trans hle7 (RO.le_trans hle8 (RO.le_trans hle9 (RO.le_trans hle10 (RO.le_trans hle11 (RO.le_trans hle12 (RO.le_trans hle13 (RO.le_trans hle14 hle15)))))))))))))))
  simp only [dvCells] at l0
  refine vcall l0 ?_
  rintro R16 la hle16 hla
  have l1 := rLacksD d0 d1 _ _ R16 (h0.mono (RO.le_trans hle1 (RO.le_trans hle2 (RO.le_trans hle3 (RO.le_trans hle4 (RO.le_trans hle5 (RO.le_trans hle6 (RO.le_trans hle7 (RO.le_trans hle8 (RO.le_trans hle9 (RO.le_trans hle10 (RO.le_trans hle11 (RO.le_trans hle12 (RO.le_trans hle13 (RO.le_trans hle14 (RO.le_trans hle15 hle16)))))))))))))))) (h1.mono (RO.le_trans hle1 (RO.le_trans hle2 (RO.le_trans hle3 (RO.le_trans hle4 (RO.le_trans hle5 (RO.le_trans hle6 (RO.le_trans hle7 (RO.le_trans hle8 (RO.le_trans hle9 (RO.le_trans hle10 (RO.le_trans hle11 (RO.le_trans hle12 (RO.le_trans hle13 (RO.le_trans hle14 (RO.le_trans hle15 hle16))))))))))))))))
  obtain ⟨laa, lac, rfl, _⟩ := hla.form
  simp only [dvCells] at l1
  try simp only [go_sem, ↓reduceIte, Nat.reduceEqDiff, Nat.reduceAdd, Nat.reduceMul, Nat.reduceLeDiff, Nat.reduceLT, Nat.reduceBNe, reduceCtorEq, Int.reduceLE, Int.reduceLT, Int.reduceToNat, Int.cast_ofNat_Int, Int.reduceEq, Int.reduceNe]
  refine vcall l1 ?_
  rintro R17 lb hle17 hlb
  obtain ⟨lba, lbc, rfl, _⟩ := hlb.form
  try simp only [go_sem, ↓reduceIte, Nat.reduceEqDiff, Nat.reduceAdd, Nat.reduceMul, Nat.reduceLeDiff, Nat.reduceLT, Nat.reduceBNe, reduceCtorEq, Int.reduceLE, Int.reduceLT, Int.reduceToNat, Int.cast_ofNat_Int, Int.reduceEq, Int.reduceNe]
  refine vcall (eSameList _ _ _ _ R17 (hla.mono hle17) hlb) ?_
  rintro R18 v hle18 rfl
  try rw [decide_eq_true (Eq.refl _)]
  try simp only [go_sem, ↓reduceIte, Nat.reduceEqDiff, Nat.reduceAdd, Nat.reduceMul, Nat.reduceLeDiff, Nat.reduceLT, Nat.reduceBNe, reduceCtorEq, Int.reduceLE, Int.reduceLT, Int.reduceToNat, Int.cast_ofNat_Int, Int.reduceEq, Int.reduceNe]
end Go.Proofs.YtojckjngjfgfdaaGreat
