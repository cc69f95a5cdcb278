/- Contracts of package civil's exported functions: the known calendars. -/
import Derived.Test.YtpbnjoopgignoaaCf
namespace Go.Proofs.Ytpbnjoopgignoaa
set_option linter.unusedSimpArgs false
set_option linter.unusedVariables false
open Go.RowKit Go.Proofs.Ytpbnjoopgignoaa.Vc

def solarM : List Int := [31, 28, 31, 30, 31, 30, 31, 31, 30, 31, 30, 31]
def lunarM : List Int := [30, 29, 30, 29, 30, 29, 30, 29, 30, 29, 30, 29]
def rests : List Int := [2, 5, 7, 10, 13, 16, 18, 21, 24, 26, 29]
def greg : Cal := ⟨7, solarM, 1, [(4, 0, true), (100, 0, false), (400, 0, true)]⟩
def jul : Cal := ⟨5, solarM, 1, [(4, 0, true)]⟩
def lunar : Cal := ⟨227021, lunarM, 11, rests.map fun r => (30, r, true)⟩
def noCal : Cal := ⟨0, [], 0, []⟩
def knownCal (k : Int) : Cal := if k = 0 then greg else if k = 1 then jul else if k = 2 then lunar else noCal
def knownE (k : Int) : Int := if k = 0 ∨ k = 1 ∨ k = 2 then 0 else 4
def KnownP (k : Int) (R : RO) (v : Value) : Prop := ∃ sm sr, v = .tuple #[cv (knownCal k) sm sr, .int .i64 (knownE k)] ∧ CalIn R (knownCal k) sm sr
theorem MonthsIn.row {R : RO} {b cap : Nat} {ms : List Int} (h : RowIn R b (ms.map (.int .i64))) (hc : (ms.map (Value.int .i64)).length ≤ cap * 1) (hb : ∀ m ∈ ms, I64 m) (hn : ms.length ≤ 140737488355328) : MonthsIn R (.slice (some ⟨b, 0, none⟩) ms.length cap) ms :=
  ⟨h.ints (by simpa using hc), hb, hn⟩
theorem MonthsIn.nil (R : RO) : MonthsIn R (.slice none 0 0) [] := ⟨Ints.nil R, by simp, by simp⟩
theorem SlK.nil (R : RO) (k : Nat) : SlK R (.slice none 0 0) k [] := ⟨none, 0, rfl, Nat.le_refl _, by simp⟩
theorem RulesIn.nil (R : RO) : RulesIn R (.slice none 0 0) [] := ⟨SlK.nil R 3, by simp, by simp⟩
theorem RulesIn.row {R : RO} {b cap : Nat} {rs : List Rule} (h : RowIn R b (rs.map rcells).flatten) (hc : (rs.map rcells).flatten.length ≤ cap * 3) (hb : ∀ r ∈ rs, I64 r.1 ∧ I64 r.2.1) (hn : rs.length ≤ 140737488355328) : RulesIn R (.slice (some ⟨b, 0, none⟩) rs.length cap) rs := by
  have := RowIn.slK (k := 3) h (by intro us hus; obtain ⟨r, _, rfl⟩ := List.mem_map.1 hus; rfl) (by decide) hc
  exact ⟨by simpa using this, hb, hn⟩
theorem noCal_in (R : RO) : CalIn R noCal (.slice none 0 0) (.slice none 0 0) := ⟨MonthsIn.nil R, RulesIn.nil R, by simp [I64, noCal], by simp [I64, noCal]⟩
theorem pKnown (k : Int) (R : RO) : CallsR Try.prog 14 [.int .i64 k] R fun R' v => KnownP k R' v := by
  refine callsT mix Try.func14 comp14 (by simp [Try.ntmps14]) ?_; simp only [go_sem, ↓reduceIte, Nat.reduceEqDiff, Nat.reduceAdd, Nat.reduceMul, Nat.reduceLeDiff, Nat.reduceLT, Nat.reduceBNe, reduceCtorEq, vc14, rs14]
  refine ⟨?_, fun h0 => ⟨?_, fun h1 => ⟨?_, ?_⟩⟩⟩
  · rintro rfl b cap R1 hle1 hr1 hc1 - b2 cap2 R2 hle2 hr2 hc2 -
    exact ⟨_, _, rfl, MonthsIn.row (ms := solarM) (hr1.mono hle2) (by simp [solarM]; omega) (by decide) (by decide), RulesIn.row (rs := greg.rules) hr2 hc2 (by decide) (by decide), by decide, by decide⟩
  · rintro rfl b cap R1 hle1 hr1 hc1 - b2 cap2 R2 hle2 hr2 hc2 -
    exact ⟨_, _, rfl, MonthsIn.row (ms := solarM) (hr1.mono hle2) (by simp [solarM]; omega) (by decide) (by decide), RulesIn.row (rs := jul.rules) hr2 hc2 (by decide) (by decide), by decide, by decide⟩
  · rintro rfl
    refine vcLoopR Nat (fun i => [(32, .val (.int .i64 i)), (7, .loc 3 0), (2, .loc 0 0)])
      (fun i => [.box [.val (.int .i64 0), .val (.slice none 0 0), .val (.int .i64 0), .val (.slice none 0 0)], .dead, .dead,
        .box [.val (.int .i64 227021), gs 4 i, .val (.int .i64 11), .val (.slice none 0 0)], gb 3 1 ((List.range i).map fun i : Nat => .int .i64 (30 - (i : Int) % 2))])
      (fun i _ => i ≤ 12) (fun i => 12 - i) 0 [] ?_ ?_ ?_ ?_
    · (try simp only [go_sem, ↓reduceIte, Nat.reduceEqDiff, Nat.reduceAdd, Nat.reduceMul, Nat.reduceLeDiff, Nat.reduceLT, Nat.reduceBNe, reduceCtorEq]) <;> (repeat' (first | rfl | trivial | constructor | (intro h; exact absurd rfl h)))
    · try simp only [go_sem, ↓reduceIte, Nat.reduceEqDiff, Nat.reduceAdd, Nat.reduceMul, Nat.reduceLeDiff, Nat.reduceLT, Nat.reduceBNe, reduceCtorEq]
    · omega
    · rintro i env R1 hle hE hi
      (simp only [go_sem] at hE; obtain ⟨e32, e7, e2⟩ := hE; simp only [go_sem, ↓reduceIte, Nat.reduceEqDiff, Nat.reduceAdd, Nat.reduceMul, Nat.reduceLeDiff, Nat.reduceLT, Nat.reduceBNe, reduceCtorEq, e32, e7, e2]; dsimp only at *)
      rw [show (i : Int).tmod 2 = i % 2 from tmod_nonneg' (by omega)]
      refine ⟨fun hlt => ⟨by decide, _, W.in64 (by omega), vgrow ((List.range i).map fun i : Nat => .int .i64 (30 - (i : Int) % 2)) (fun _ => rfl) (fun h => set_dead_gb (congrArg some (by rw [h]; rfl))) (by simp) (by decide) (by decide) (by omega) ?_⟩, fun hge => ?_⟩
      · simp only [go_sem, ↓reduceIte, Nat.reduceEqDiff, Nat.reduceAdd, Nat.reduceMul, Nat.reduceLeDiff, Nat.reduceLT, Nat.reduceBNe, reduceCtorEq, e32, e7, e2]
        refine ⟨_, W.in64 (by omega), i + 1, [0, 1, 2, 3, 6], by omega, ?_⟩
        try simp only [go_sem, ↓reduceIte, Nat.reduceEqDiff, Nat.reduceAdd, Nat.reduceMul, Nat.reduceLeDiff, Nat.reduceLT, Nat.reduceBNe, reduceCtorEq]
        exact ⟨⟨rfl, fun _ => by simp [List.range_succ]⟩, rfl, by omega⟩
      · obtain rfl : i = 12 := by omega
        have e4 : gb 3 1 ((List.range 12).map fun i : Nat => Value.int .i64 (30 - (i : Int) % 2)) = .row 3 1 (lunarM.map (.int .i64)) := rfl
        rw [e4]
        refine vcLoopR Nat (fun i => [(46, .val (.int .i64 i)), (45, .val (.int .i64 11)), (44, .sl 5 11), (7, .loc 3 0), (2, .loc 0 0)])
          (fun i => [.box [.val (.int .i64 0), .val (.slice none 0 0), .val (.int .i64 0), .val (.slice none 0 0)], .dead, .dead,
            .box [.val (.int .i64 227021), .sl 4 12, .val (.int .i64 11), gs 6 i], .row 3 1 (lunarM.map (.int .i64)), .row 3 1 (rests.map (.int .i64)), gb 61 3 ((rests.take i).map fun r => rcells (30, r, true)).flatten])
          (fun i _ => i ≤ 11) (fun i => 11 - i) 0 [] ?_ ?_ ?_ ?_
        · (try simp only [go_sem, ↓reduceIte, Nat.reduceEqDiff, Nat.reduceAdd, Nat.reduceMul, Nat.reduceLeDiff, Nat.reduceLT, Nat.reduceBNe, reduceCtorEq]) <;> (repeat' (first | rfl | trivial | constructor | (intro h; exact absurd rfl h)))
        · try simp only [go_sem, ↓reduceIte, Nat.reduceEqDiff, Nat.reduceAdd, Nat.reduceMul, Nat.reduceLeDiff, Nat.reduceLT, Nat.reduceBNe, reduceCtorEq]
        · omega
        · rintro i env R2 hle2 hE hi2
          (simp only [go_sem] at hE; obtain ⟨e46, e45, e44, e7, e2⟩ := hE; simp only [go_sem, ↓reduceIte, Nat.reduceEqDiff, Nat.reduceAdd, Nat.reduceMul, Nat.reduceLeDiff, Nat.reduceLT, Nat.reduceBNe, reduceCtorEq, e46, e45, e44, e7, e2]; dsimp only at *)
          refine ⟨fun hlt => ⟨hlt, ?_⟩, fun hge => ?_⟩
          · have hir : i < rests.length := by simp [rests]; omega
            have hlen : ((rests.take i).map fun r => rcells (30, r, true)).flatten.length = i * 3 := by
              rw [length_flattenK (k := 3) (by intro us hus; obtain ⟨r, _, rfl⟩ := List.mem_map.1 hus; rfl)]
              simp
              simp [rests]; omega
            refine ⟨.int .i64 rests[i], by simp [hir], ?_⟩
            simp only [go_sem, ↓reduceIte, Nat.reduceEqDiff, Nat.reduceAdd, Nat.reduceMul, Nat.reduceLeDiff, Nat.reduceLT, Nat.reduceBNe, reduceCtorEq, e46, e45, e44, e7, e2]
            refine vgrow ((rests.take i).map fun r => rcells (30, r, true)).flatten (fun h => by simp [gb_ne h]) (fun h => set_dead_gb (congrArg some (by rw [h]; rfl))) hlen (by decide) (by decide) (by omega) ?_
            simp only [go_sem, ↓reduceIte, Nat.reduceEqDiff, Nat.reduceAdd, Nat.reduceMul, Nat.reduceLeDiff, Nat.reduceLT, Nat.reduceBNe, reduceCtorEq, e46, e45, e44, e7, e2]
            refine ⟨_, W.in64 (by omega), i + 1, [0, 1, 2, 3, 4, 5, 8], by omega, ?_⟩
            try simp only [go_sem, ↓reduceIte, Nat.reduceEqDiff, Nat.reduceAdd, Nat.reduceMul, Nat.reduceLeDiff, Nat.reduceLT, Nat.reduceBNe, reduceCtorEq]
            refine ⟨⟨rfl, fun _ => ?_⟩, rfl, by omega⟩
            rw [List.take_succ_eq_append_getElem hir, List.map_append, List.flatten_append]
            rfl
          · obtain rfl : i = 11 := by omega
            have e6 : gb 61 3 ((rests.take 11).map fun r => rcells (30, r, true)).flatten = .row 61 3 (lunar.rules.map rcells).flatten := rfl
            rw [e6]
            rintro b cap R3 hle3 hr3 hc3 -
            try simp only [go_sem, ↓reduceIte, Nat.reduceEqDiff, Nat.reduceAdd, Nat.reduceMul, Nat.reduceLeDiff, Nat.reduceLT, Nat.reduceBNe, reduceCtorEq]
            rintro b2 cap2 R4 hle4 hr4 hc4 -
            simp only [go_sem, ↓reduceIte, Nat.reduceEqDiff, Nat.reduceAdd, Nat.reduceMul, Nat.reduceLeDiff, Nat.reduceLT, Nat.reduceBNe, reduceCtorEq, e7, e2]
            exact ⟨_, _, rfl, MonthsIn.row (ms := lunarM) (hr3.mono hle4) (by simpa using hc3) (by decide) (by decide), RulesIn.row (rs := lunar.rules) hr4 hc4 (by decide) (by decide), by decide, by decide⟩
  · intro h2
    have e1 : knownCal k = noCal := by simp [knownCal, h0, h1, h2]
    have e2 : knownE k = 4 := by simp [knownE, h0, h1, h2]
    refine ⟨_, _, ?_, by rw [e1]; exact noCal_in R⟩
    rw [e1, e2]
    rfl
end Go.Proofs.Ytpbnjoopgignoaa
