/- The law CivilPositions, out of the contracts. -/
import Derived.Test.YtpbnjoopgignoaaLf
import Derived.Test.YtpbnjoopgignoaaCf
namespace Go.Proofs.Ytpbnjoopgignoaa
set_option linter.unusedSimpArgs false
set_option linter.unusedVariables false
open Go.RowKit Go.Proofs.Ytpbnjoopgignoaa.Vc

/-- How many of the first i days have the weekday, if the first that has it is o days behind. -/
def cnt (o : Int) (i : Nat) : Nat := ((i + 6 - o) / 7).toNat
/-- These days, as cells. -/
def dcells (A o : Int) (n : Nat) : List Value := (List.range n).map fun t => .int .i64 (A + o + 7 * (t : Nat))
theorem dcells_len (A o : Int) (n : Nat) : (dcells A o n).length = n := by simp [dcells]
theorem dcells_succ (A o : Int) (n : Nat) : dcells A o (n + 1) = dcells A o n ++ [.int .i64 (A + o + 7 * (n : Nat))] := by simp [dcells, List.range_succ]
theorem dcells_get (A o : Int) (n i : Nat) (h : i < n) : (dcells A o n)[i]? = some (.int .i64 (A + o + 7 * (i : Nat))) := by simp [dcells, h]
theorem nth_at {c : Cal} (hv : c.valid) {y m w A L o k : Int} (hy : 1 ≤ y ∧ y ≤ 9999) (hm : 0 ≤ m ∧ m ≤ c.months.length) (hw : 0 ≤ w ∧ w < 7) (hA : spanA c y m = A) (hL : spanL c y m = L) (hLb : 1 ≤ L ∧ L ≤ 28)
    (ho : o = (w - A) % 7) (hk : k = (L + 6 - o) / 7) :
    (∀ n, 1 ≤ n → n ≤ k → (nthE c y m w n = 0 ∧ nthV c y m w n = A + o + 7 * (n - 1)) ∧ nthE c y m w (n - k - 1) = 0 ∧ nthV c y m w (n - k - 1) = A + o + 7 * (n - 1)) ∧ nthE c y m w (k + 1) = 4 ∧ nthE c y m w (-k - 1) = 4 := by
  have hE : ∀ n, n ≠ 0 → nthE c y m w n = if nthOk A L w n then 0 else 4 := by
    intro n hn
    unfold nthE
    rw [if_neg (by rintro (h | h | h | h) <;> first | exact h hv | omega), if_neg (by simpa using hy), if_neg (by omega), hA, hL]
  have hV : ∀ n, n ≠ 0 → nthOk A L w n → nthE c y m w n = 0 ∧ nthV c y m w n = nthDay A L w n := by
    intro n hn h
    have h0 : nthE c y m w n = 0 := by rw [hE n hn, if_pos h]
    exact ⟨h0, by rw [nthV, if_pos h0, hA, hL]⟩
  refine ⟨fun n h1 h2 => ⟨?_, ?_⟩, ?_, ?_⟩
  · have hd : nthDay A L w n = A + o + 7 * (n - 1) := by unfold nthDay; rw [if_neg (by omega)]; omega
    rw [← hd]
    refine hV n (by omega) ?_
    unfold nthOk
    rw [hd]
    omega
  · have hd : nthDay A L w (n - k - 1) = A + o + 7 * (n - 1) := by unfold nthDay; rw [if_pos (by omega)]; omega
    rw [← hd]
    refine hV (n - k - 1) (by omega) ?_
    unfold nthOk
    rw [hd]
    omega
  · rw [hE _ (by omega), if_neg]
    unfold nthOk nthDay
    rw [if_neg (by omega)]
    omega
  · rw [hE _ (by omega), if_neg]
    unfold nthOk nthDay
    rw [if_pos (by omega)]
    omega
theorem mlen_le {c : Cal} (hv : c.valid) (y : Int) {m : Nat} (hm : m < c.months.length) : c.mlen y m ≤ c.ylen y := by
  have h1 := sumTo_mono (f := c.mlen y) (fun i => Cal.mlen_nonneg hv y i) (show m + 1 ≤ c.months.length by omega)
  have h2 := sumTo_mono (f := c.mlen y) (fun i => Cal.mlen_nonneg hv y i) (show 0 ≤ m by omega)
  have h3 : c.ylen y = sumTo (c.mlen y) c.months.length := rfl
  simp only [sumTo] at h1 h2
  omega
theorem lPositions (c : Cal) (sm sr : Value) (R : RO) (h : CalIn R c sm sr) (y m d : Int) (hy : I64 y) (hm : I64 m) (hd : I64 d) (x : Int) (hx : I64 x) :
    CallsR Try.prog 10 [cv c sm sr, dv y m d, .int .i64 x] R fun _ v => v = .bool true := by
  obtain ⟨a0, b0, p0, q0, rfl, rfl⟩ := h.form
  refine callsT mix Try.func10 comp10 (by simp [Try.ntmps10]) ?_; simp only [go_sem, ↓reduceIte, Nat.reduceEqDiff, Nat.reduceAdd, Nat.reduceMul, Nat.reduceLeDiff, Nat.reduceLT, Nat.reduceBNe, reduceCtorEq, vc10, rs10]
  refine vcall (lSanity R) ?_
  rintro R1 v hle rfl
  replace h := h.mono hle
  try simp only [go_sem, ↓reduceIte, Nat.reduceEqDiff, Nat.reduceAdd, Nat.reduceMul, Nat.reduceLeDiff, Nat.reduceLT, Nat.reduceBNe, reduceCtorEq, Int.reduceLE, Int.reduceLT, Int.reduceToNat, Int.cast_ofNat_Int, Int.reduceEq, Int.reduceNe]
  refine vcall (rMade c _ _ R1 h) ?_
  rintro R2 v hle ⟨sm, sr, rfl, hm'⟩
  have hv := c.made_valid
  have hfb := hv.first_bd (y := 10000) (by omega) (by omega)
  have hep := c.made_epoch
  have hyl := c.made_ylen
  generalize c.made = C at *
  obtain ⟨a, b, p, q, rfl, rfl⟩ := hm'.form
  have hml := hv.2.1
  try simp only [go_sem, ↓reduceIte, Nat.reduceEqDiff, Nat.reduceAdd, Nat.reduceMul, Nat.reduceLeDiff, Nat.reduceLT, Nat.reduceBNe, reduceCtorEq, Int.reduceLE, Int.reduceLT, Int.reduceToNat, Int.cast_ofNat_Int, Int.reduceEq, Int.reduceNe]
  refine vcall (rMod x 7 (by omega) (by decide) hx R2) ?_
  rintro R3 v hle rfl
  replace hm' := hm'.mono hle
  have hw : 0 ≤ x % 7 ∧ x % 7 < 7 := by omega
  generalize x % 7 = w at *
  try simp only [go_sem, ↓reduceIte, Nat.reduceEqDiff, Nat.reduceAdd, Nat.reduceMul, Nat.reduceLeDiff, Nat.reduceLT, Nat.reduceBNe, reduceCtorEq, Int.reduceLE, Int.reduceLT, Int.reduceToNat, Int.cast_ofNat_Int, Int.reduceEq, Int.reduceNe]
  refine ⟨_, W.in64 (by omega), ?_⟩
  refine vcall (rMod y 9999 (by omega) (by decide) hy R3) ?_
  rintro R4 v hle rfl
  replace hm' := hm'.mono hle
  try simp only [go_sem, ↓reduceIte, Nat.reduceEqDiff, Nat.reduceAdd, Nat.reduceMul, Nat.reduceLeDiff, Nat.reduceLT, Nat.reduceBNe, reduceCtorEq, Int.reduceLE, Int.reduceLT, Int.reduceToNat, Int.cast_ofNat_Int, Int.reduceEq, Int.reduceNe]
  refine ⟨_, W.in64 (by omega), ?_⟩
  have hY : 1 ≤ 1 + y % 9999 ∧ 1 + y % 9999 ≤ 9999 := by omega
  generalize 1 + y % 9999 = Y at *
  try simp only [go_sem, ↓reduceIte, Nat.reduceEqDiff, Nat.reduceAdd, Nat.reduceMul, Nat.reduceLeDiff, Nat.reduceLT, Nat.reduceBNe, reduceCtorEq, Int.reduceLE, Int.reduceLT, Int.reduceToNat, Int.cast_ofNat_Int, Int.reduceEq, Int.reduceNe]
  refine vcall (rMod m (C.months.length + 1) (by omega) (by unfold I64; omega) hm R4) ?_
  rintro R5 v hle rfl
  replace hm' := hm'.mono hle
  have hMb : 0 ≤ m % (C.months.length + 1 : Int) ∧ m % (C.months.length + 1 : Int) < C.months.length + 1 := ⟨Int.emod_nonneg _ (by omega), Int.emod_lt_of_pos _ (by omega)⟩
  generalize m % (C.months.length + 1 : Int) = M at *
  try simp only [go_sem, ↓reduceIte, Nat.reduceEqDiff, Nat.reduceAdd, Nat.reduceMul, Nat.reduceLeDiff, Nat.reduceLT, Nat.reduceBNe, reduceCtorEq, Int.reduceLE, Int.reduceLT, Int.reduceToNat, Int.cast_ofNat_Int, Int.reduceEq, Int.reduceNe]
  refine vcall (pYearLength C _ _ _ hm' Y (by unfold I64; omega)) ?_
  rintro R6 v hle rfl
  replace hm' := hm'.mono hle
  have hyA : ylenA C Y = C.ylen Y := by rw [ylenA, if_pos hv]
  rw [hyA]
  have hyl1 := hyl Y
  have hyl2 := (hv.ylen_bd Y).1
  try simp only [go_sem, ↓reduceIte, Nat.reduceEqDiff, Nat.reduceAdd, Nat.reduceMul, Nat.reduceLeDiff, Nat.reduceLT, Nat.reduceBNe, reduceCtorEq, Int.reduceLE, Int.reduceLT, Int.reduceToNat, Int.cast_ofNat_Int, Int.reduceEq, Int.reduceNe]
  refine ⟨fun hM0 => ?_, fun hM0 => ?_⟩
  case' refine_1 =>
    obtain ⟨F, hF⟩ : ∃ F : Int, F = 1 := ⟨1, rfl⟩
    have hA : spanA C Y M = C.first Y := by unfold spanA; rw [if_neg (by omega)]
    have hL : spanL C Y M = C.ylen Y := by unfold spanL; rw [if_neg (by omega)]
    have hD := dayV_first hv (y := Y) (m := 0) hY (by omega)
    simp only [Int.natCast_zero, Int.zero_add, C.beg_zero] at hD
    have hAb := hv.first_bd (y := Y) (by omega) (by omega)
    have hLb : 1 ≤ C.ylen Y ∧ C.ylen Y ≤ 28 := by omega
    refine vcall (pDayOf C _ _ _ hm' Y 1 1 (by unfold I64; omega) (by decide) (by decide)) ?_
  case' refine_2 =>
    obtain ⟨F, hF⟩ : ∃ F : Int, F = M := ⟨M, rfl⟩
    have hA : spanA C Y M = C.beg Y (M - 1).toNat := by unfold spanA; rw [if_pos (by omega)]
    have hL : spanL C Y M = C.mlen Y (M - 1).toNat := by unfold spanL; rw [if_pos (by omega)]
    have hD := dayV_first hv (y := Y) (m := (M - 1).toNat) hY (by omega)
    have hLb1 := hv.mlen_bd Y (show (M - 1).toNat < C.months.length by omega)
    have hLb2 := mlen_le hv Y (show (M - 1).toNat < C.months.length by omega)
    have hLb : 1 ≤ C.mlen Y (M - 1).toNat ∧ C.mlen Y (M - 1).toNat ≤ 28 := by omega
    rw [show (((M - 1).toNat : Nat) : Int) + 1 = M by omega] at hD
    have hAb0 := hv.first_bd (y := Y) (by omega) (by omega)
    have hAb : C.epoch ≤ C.beg Y (M - 1).toNat ∧ C.beg Y (M - 1).toNat ≤ 7800000 := by
      have h1 := sumTo_bd (f := C.mlen Y) (a := 1) (b := 41) (M - 1).toNat (fun i hi => hv.mlen_bd Y (by omega))
      have h2 : C.beg Y (M - 1).toNat = C.first Y + sumTo (C.mlen Y) (M - 1).toNat := rfl
      omega
    refine vcall (pMonthLength C _ _ _ hm' Y M (by unfold I64; omega)) ?_
    rintro R7 v hle rfl
    replace hm' := hm'.mono hle
    rw [mlenA, if_pos ⟨hv, by omega, by omega⟩]
    try simp only [go_sem, ↓reduceIte, Nat.reduceEqDiff, Nat.reduceAdd, Nat.reduceMul, Nat.reduceLeDiff, Nat.reduceLT, Nat.reduceBNe, reduceCtorEq, Int.reduceLE, Int.reduceLT, Int.reduceToNat, Int.cast_ofNat_Int, Int.reduceEq, Int.reduceNe]
    refine vcall (pDayOf C _ _ _ hm' Y M 1 (by unfold I64; omega) (by unfold I64; omega) (by decide)) ?_
  all_goals
    rintro R8 v hle rfl
    replace hm' := hm'.mono hle
    rw [hD.1, hD.2]
    try simp only [go_sem, ↓reduceIte, Nat.reduceEqDiff, Nat.reduceAdd, Nat.reduceMul, Nat.reduceLeDiff, Nat.reduceLT, Nat.reduceBNe, reduceCtorEq, Int.reduceLE, Int.reduceLT, Int.reduceToNat, Int.cast_ofNat_Int, Int.reduceEq, Int.reduceNe]
  all_goals
    refine ⟨fun _ => ⟨fun h => by omega, fun _ => ?_⟩, fun h => by omega⟩
    rw [← hA] at hAb
    rw [← hL] at hLb
    rw [← hA, ← hL]
    obtain ⟨A, hAA⟩ : ∃ A, A = spanA C Y M := ⟨_, rfl⟩
    obtain ⟨L, hLL⟩ : ∃ L, L = spanL C Y M := ⟨_, rfl⟩
    rw [← hAA] at hAb
    rw [← hLL] at hLb
    rw [← hAA, ← hLL]
    obtain ⟨o, ho⟩ : ∃ o, o = (w - A) % 7 := ⟨_, rfl⟩
    have hnth := nth_at hv hY (by omega) hw hAA.symm hLL.symm hLb ho rfl
    clear hA hL
    have hob : 0 ≤ o ∧ o < 7 := by omega
    have hc0 : cnt o 0 = 0 := by unfold cnt; omega
    refine vcLoopR Nat (fun i => [(16, .val (.int .i64 i)), (12, .val (.int .i64 L)), (13, .val (.int .i64 A)), (9, .val (.int .i64 w)), (15, gs 5 (cnt o i)), (8, .loc 2 0), (10, .loc 3 0), (7, .val (.bool true))])
      (fun i => [.box [.val (.int .i64 c.epoch), .val (.slice a0 c.months.length b0), .val (.int .i64 c.leap), .val (.slice p0 c.rules.length q0)], .box [.val (.int .i64 y), .val (.int .i64 m), .val (.int .i64 d)],
        .box [.val (.int .i64 C.epoch), .val (.slice a C.months.length b), .val (.int .i64 C.leap), .val (.slice p C.rules.length q)],
        .box [.val (.int .i64 Y), .val (.int .i64 M), .val (.int .i64 1)], .box [.val (.int .i64 Y), .val (.int .i64 F), .val (.int .i64 1)], gb 3 1 (dcells A o (cnt o i))])
      (fun i _ => (i : Int) ≤ L) (fun i => L.toNat - i) 0 [] ?_ ?_ ?_ ?_
    · rw [hc0]; subst hF; (try simp only [go_sem, ↓reduceIte, Nat.reduceEqDiff, Nat.reduceAdd, Nat.reduceMul, Nat.reduceLeDiff, Nat.reduceLT, Nat.reduceBNe, reduceCtorEq]) <;> (repeat' (first | rfl | trivial | constructor | (intro h; exact absurd rfl h)))
    · try simp only [go_sem, ↓reduceIte, Nat.reduceEqDiff, Nat.reduceAdd, Nat.reduceMul, Nat.reduceLeDiff, Nat.reduceLT, Nat.reduceBNe, reduceCtorEq]
    · omega
    rintro i env R9 hle9 hE hi
    replace hm' := hm'.mono hle9
    (simp only [go_sem] at hE; obtain ⟨e16, e12, e13, e9, e15, e8, e10, e7⟩ := hE; simp only [go_sem, ↓reduceIte, Nat.reduceEqDiff, Nat.reduceAdd, Nat.reduceMul, Nat.reduceLeDiff, Nat.reduceLT, Nat.reduceBNe, reduceCtorEq, e16, e12, e13, e9, e15, e8, e10, e7]; dsimp only at *)
    refine ⟨fun hlt => ⟨_, W.in64 (by omega), ?_⟩, fun hge => ?_⟩
    · refine vcall (cWeekday (A + i) (by unfold I64; omega) _) ?_
      rintro R10 v hle10 rfl
      replace hm' := hm'.mono hle10
      try simp only [go_sem, ↓reduceIte, Nat.reduceEqDiff, Nat.reduceAdd, Nat.reduceMul, Nat.reduceLeDiff, Nat.reduceLT, Nat.reduceBNe, reduceCtorEq, e16, e12, e13, e9, e15, e8, e10, e7]
      refine ⟨fun heq => ?_, fun hne => ?_⟩
      · have hcs : cnt o (i + 1) = cnt o i + 1 := by unfold cnt; omega
        have hcv : A + i = A + o + 7 * (cnt o i : Int) := by unfold cnt; omega
        have hcb : cnt o i ≤ 28 := by unfold cnt; omega
        refine ⟨_, W.in64 (by omega), vgrow (dcells A o (cnt o i)) (fun _ => rfl) (fun h => set_dead_gb (congrArg some (by rw [h]; rfl))) (by rw [dcells_len]; omega) (by decide) (by decide) (by omega) ?_⟩
        try simp only [go_sem, ↓reduceIte, Nat.reduceEqDiff, Nat.reduceAdd, Nat.reduceMul, Nat.reduceLeDiff, Nat.reduceLT, Nat.reduceBNe, reduceCtorEq, e16, e12, e13, e9, e15, e8, e10, e7]
        refine ⟨_, W.in64 (by omega), i + 1, [0, 1, 2, 3, 4, 7], by omega, ?_⟩
        rw [hcs, dcells_succ, ← hcv]
        try simp only [go_sem, ↓reduceIte, Nat.reduceEqDiff, Nat.reduceAdd, Nat.reduceMul, Nat.reduceLeDiff, Nat.reduceLT, Nat.reduceBNe, reduceCtorEq]
        exact ⟨rfl, rfl, by omega⟩
      · have hcs : cnt o (i + 1) = cnt o i := by unfold cnt; omega
        refine ⟨_, W.in64 (by omega), i + 1, [0, 1, 2, 3, 4, 5], by omega, ?_⟩
        rw [hcs]
        try simp only [go_sem, ↓reduceIte, Nat.reduceEqDiff, Nat.reduceAdd, Nat.reduceMul, Nat.reduceLeDiff, Nat.reduceLT, Nat.reduceBNe, reduceCtorEq]
        exact ⟨⟨rfl, fun h => gb_ne h⟩, rfl, by omega⟩
    · have hiL : (i : Int) = L := by omega
      have hkk : ((cnt o i : Nat) : Int) = (L + 6 - o) / 7 := by unfold cnt; omega
      rw [← hkk] at hnth
      have hkb : cnt o i ≤ 28 := by unfold cnt; omega
      clear hkk hc0
      generalize cnt o i = k at *
      refine vcLoop Nat (fun n => [(18, .val (.int .i64 (n + 1 : Int))), (17, .val (.int .i64 k)), (9, .val (.int .i64 w)), (15, gs 5 k), (8, .loc 2 0), (10, .loc 3 0), (7, .val (.bool true))])
        (fun _ => [.box [.val (.int .i64 c.epoch), .val (.slice a0 c.months.length b0), .val (.int .i64 c.leap), .val (.slice p0 c.rules.length q0)], .box [.val (.int .i64 y), .val (.int .i64 m), .val (.int .i64 d)],
          .box [.val (.int .i64 C.epoch), .val (.slice a C.months.length b), .val (.int .i64 C.leap), .val (.slice p C.rules.length q)],
          .box [.val (.int .i64 Y), .val (.int .i64 M), .val (.int .i64 1)], .box [.val (.int .i64 Y), .val (.int .i64 F), .val (.int .i64 1)], gb 3 1 (dcells A o k)])
        (fun n _ => n ≤ k) (fun n => k - n) 0 ?_ ?_ ?_ ?_
      · (try simp only [go_sem, ↓reduceIte, Nat.reduceEqDiff, Nat.reduceAdd, Nat.reduceMul, Nat.reduceLeDiff, Nat.reduceLT, Nat.reduceBNe, reduceCtorEq]) <;> (repeat' (first | rfl | trivial | constructor | (intro h; exact absurd rfl h)))
        exact fun h => gb_ne h
      · try simp only [go_sem, ↓reduceIte, Nat.reduceEqDiff, Nat.reduceAdd, Nat.reduceMul, Nat.reduceLeDiff, Nat.reduceLT, Nat.reduceBNe, reduceCtorEq]
      · omega
      clear e16 e12 e13 e9 e15 e8 e10 e7
      rintro n env' R10 hle10 hE hn
      replace hm' := hm'.mono hle10
      (simp only [go_sem] at hE; obtain ⟨f18, f17, f9, f15, f8, f10, f7⟩ := hE; simp only [go_sem, ↓reduceIte, Nat.reduceEqDiff, Nat.reduceAdd, Nat.reduceMul, Nat.reduceLeDiff, Nat.reduceLT, Nat.reduceBNe, reduceCtorEq, f18, f17, f9, f15, f8, f10, f7]; dsimp only at *)
      refine ⟨fun hlt => ?_, fun hge => ?_⟩
      · obtain ⟨⟨hE1, hV1⟩, hE2, hV2⟩ := hnth.1 (n + 1) (by omega) (by omega)
        rw [show A + o + 7 * ((n : Int) + 1 - 1) = A + o + 7 * (n : Nat) by omega] at hV1 hV2
        have hg := dcells_get A o k n (by omega)
        have hne : dcells A o k ≠ [] := by intro h; have := dcells_len A o k; rw [h] at this; simp at this; omega
        refine vcall (pNth C _ _ _ hm' Y M 1 w (n + 1) (by unfold I64; omega) (by unfold I64; omega) (by decide) (by unfold I64; omega) (by unfold I64; omega)) ?_
        rintro R11 v hle rfl
        replace hm' := hm'.mono hle
        rw [hE1, hV1]
        try simp only [go_sem, ↓reduceIte, Nat.reduceEqDiff, Nat.reduceAdd, Nat.reduceMul, Nat.reduceLeDiff, Nat.reduceLT, Nat.reduceBNe, reduceCtorEq, f18, f17, f9, f15, f8, f10, f7]
        refine ⟨_, W.in64 (by omega), _, W.in64 (by omega), ?_⟩
        refine vcall (pNth C _ _ _ hm' Y M 1 w (n + 1 - k - 1) (by unfold I64; omega) (by unfold I64; omega) (by decide) (by unfold I64; omega) (by unfold I64; omega)) ?_
        rintro R12 v hle rfl
        replace hm' := hm'.mono hle
        rw [hE2, hV2]
        rw [gs_pos (by omega)] at f15
        rw [gb_ne hne]
        try simp only [go_sem, ↓reduceIte, Nat.reduceEqDiff, Nat.reduceAdd, Nat.reduceMul, Nat.reduceLeDiff, Nat.reduceLT, Nat.reduceBNe, reduceCtorEq, f18, f17, f9, f15, f8, f10, f7]
        refine ⟨_, W.in64 (by omega), by omega, by omega, _, (by rw [show ((n : Int) + 1 - 1).toNat = n by omega]; exact hg), ?_⟩
        try simp only [go_sem, ↓reduceIte, Nat.reduceEqDiff, Nat.reduceAdd, Nat.reduceMul, Nat.reduceLeDiff, Nat.reduceLT, Nat.reduceBNe, reduceCtorEq, f18, f17, f9, f15, f8, f10, f7]
        refine ⟨_, W.in64 (by omega), by omega, by omega, _, (by rw [show ((n : Int) + 1 - 1).toNat = n by omega]; exact hg), ?_⟩
        try simp only [go_sem, ↓reduceIte, Nat.reduceEqDiff, Nat.reduceAdd, Nat.reduceMul, Nat.reduceLeDiff, Nat.reduceLT, Nat.reduceBNe, reduceCtorEq, f18, f17, f9, f15, f8, f10, f7]
        exact ⟨_, W.in64 (by omega), n + 1, by omega, ⟨congrArg (fun z => SV.val (Value.int IntKind.i64 z)) (by omega), (gs_pos (by omega)).symm⟩, by omega⟩
      · obtain rfl : n = k := by omega
        refine ⟨_, W.in64 (by omega), ?_⟩
        refine vcall (pNth C _ _ _ hm' Y M 1 w (n + 1) (by unfold I64; omega) (by unfold I64; omega) (by decide) (by unfold I64; omega) (by unfold I64; omega)) ?_
        rintro R11 v hle rfl
        replace hm' := hm'.mono hle
        rw [hnth.2.1]
        try simp only [go_sem, ↓reduceIte, Nat.reduceEqDiff, Nat.reduceAdd, Nat.reduceMul, Nat.reduceLeDiff, Nat.reduceLT, Nat.reduceBNe, reduceCtorEq, f18, f17, f9, f15, f8, f10, f7]
        refine ⟨_, W.in64 (by omega), _, W.in64 (by omega), ?_⟩
        rw [show (0 - (n : Int) - 1) = -(n : Int) - 1 by omega]
        refine vcall (pNth C _ _ _ hm' Y M 1 w (-n - 1) (by unfold I64; omega) (by unfold I64; omega) (by decide) (by unfold I64; omega) (by unfold I64; omega)) ?_
        rintro R12 v hle rfl
        rw [hnth.2.2]
        try simp only [go_sem, ↓reduceIte, Nat.reduceEqDiff, Nat.reduceAdd, Nat.reduceMul, Nat.reduceLeDiff, Nat.reduceLT, Nat.reduceBNe, reduceCtorEq, f18, f17, f9, f15, f8, f10, f7]
end Go.Proofs.Ytpbnjoopgignoaa
