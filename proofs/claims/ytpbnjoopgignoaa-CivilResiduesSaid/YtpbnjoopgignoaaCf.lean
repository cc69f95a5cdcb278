/- Contracts of package civil's exported functions: the n-th weekday, the known calendars. -/
import Derived.Test.YtpbnjoopgignoaaCe
namespace Go.Proofs.Ytpbnjoopgignoaa
set_option linter.unusedSimpArgs false
set_option linter.unusedVariables false
open Go.RowKit Go.Proofs.Ytpbnjoopgignoaa.Vc

/-- The n-th day with a weekday, of 'len' days from 'a' on; from the end, where n is below 0. -/
def nthDay (a len w n : Int) : Int := if n < 0 then a + len - 1 - (a + len - 1 - w) % 7 + (n + 1) * 7 else a + (w - a) % 7 + (n - 1) * 7
def nthOk (a len w n : Int) : Prop := n ≤ len ∧ -len ≤ n ∧ a ≤ nthDay a len w n ∧ nthDay a len w n < a + len
instance (a len w n : Int) : Decidable (nthOk a len w n) := by unfold nthOk; infer_instance
/-- Where a month begins, or a year; how long it is. -/
def spanA (c : Cal) (y m : Int) : Int := if 0 < m then c.beg y (m - 1).toNat else c.first y
def spanL (c : Cal) (y m : Int) : Int := if 0 < m then c.mlen y (m - 1).toNat else c.ylen y
def nthE (c : Cal) (y m w n : Int) : Int :=
  if ¬ c.valid ∨ w < 0 ∨ 7 ≤ w ∨ n = 0 then 1 else if ¬ (1 ≤ y ∧ y ≤ 9999) then 2 else if m < 0 ∨ c.months.length < m then 4 else if nthOk (spanA c y m) (spanL c y m) w n then 0 else 4
def nthV (c : Cal) (y m w n : Int) : Int := if nthE c y m w n = 0 then nthDay (spanA c y m) (spanL c y m) w n else 0
theorem pNth (c : Cal) (sm sr : Value) (R : RO) (h : CalIn R c sm sr) (y m d w n : Int) (hy : I64 y) (hm : I64 m) (hd : I64 d) (hw : I64 w) (hn : I64 n) :
    CallsR Try.prog 31 [cv c sm sr, dv y m d, .int .i64 w, .int .i64 n] R fun _ v => v = .tuple #[.int .i64 (nthV c y m w n), .int .i64 (nthE c y m w n)] := by
  obtain ⟨am, cm, rfl, hcm, hfm⟩ := h.m.form
  obtain ⟨ar, cr, rfl, hcr, hfr⟩ := h.r.form
  have err : ∀ e : Int, e ≠ 0 → nthE c y m w n = e → Value.tuple #[.int .i64 0, .int .i64 e] = Value.tuple #[.int .i64 (nthV c y m w n), .int .i64 (nthE c y m w n)] := by
    intro e h0 h1
    simp [nthV, h1, h0]
  refine callsT mix Try.func31 comp31 (by simp [Try.ntmps31]) ?_; simp only [go_sem, ↓reduceIte, Nat.reduceEqDiff, Nat.reduceAdd, Nat.reduceMul, Nat.reduceLeDiff, Nat.reduceLT, Nat.reduceBNe, reduceCtorEq, vc31, rs31]
  refine vcall (cOpen c _ _ R h) ?_
  rintro R1 v hle (⟨hv, rfl⟩ | ⟨hv, a, cap, rfl, hst⟩)
  · try simp only [go_sem, ↓reduceIte, Nat.reduceEqDiff, Nat.reduceAdd, Nat.reduceMul, Nat.reduceLeDiff, Nat.reduceLT, Nat.reduceBNe, reduceCtorEq]
    exact err 1 (by decide) (by simp [nthE, hv])
  · try simp only [go_sem, ↓reduceIte, Nat.reduceEqDiff, Nat.reduceAdd, Nat.reduceMul, Nat.reduceLeDiff, Nat.reduceLT, Nat.reduceBNe, reduceCtorEq]
    have he := hv.1
    have hml := hv.2.1
    refine ⟨fun h1 => ⟨fun h2 => ⟨fun h3 => err 1 (by decide) (by simp [nthE, h3]), fun h3 => ?_⟩, fun h2 => err 1 (by decide) (by rw [nthE, if_pos (by omega)])⟩, fun h1 => err 1 (by decide) (by rw [nthE, if_pos (by omega)])⟩
    refine vcall (cSupported y R1) ?_
    rintro R2 v hle2 rfl
    try simp only [go_sem, ↓reduceIte, Nat.reduceEqDiff, Nat.reduceAdd, Nat.reduceMul, Nat.reduceLeDiff, Nat.reduceLT, Nat.reduceBNe, reduceCtorEq]
    refine ⟨fun h4 => err 2 (by decide) (by rw [nthE, if_neg (fun h => by rcases h with h | h; exact h hv; omega), if_pos h4]), fun h4 => ⟨fun h5 => ⟨fun h6 => ?_, fun h6 => ?_⟩, fun h5 => ?_⟩⟩
    · exact err 4 (by decide) (by rw [nthE, if_neg (fun h => by rcases h with h | h; exact h hv; omega), if_neg (fun h => h h4), if_pos (by omega)])
    · have hE : nthE c y m w n = if nthOk (spanA c y m) (spanL c y m) w n then 0 else 4 := by
        rw [nthE, if_neg (fun h => by rcases h with h | h; exact h hv; omega), if_neg (fun h => h h4), if_neg (by omega)]
      have hfb := hv.first_bd (y := y) (by omega) (by omega)
      have hyb := hv.ylen_bd y
      refine vcall (cFirst c hv _ _ _ R2 (hst.mono hle2) y (by omega)) ?_
      rintro R3 v hle3 rfl
      try simp only [go_sem, ↓reduceIte, Nat.reduceEqDiff, Nat.reduceAdd, Nat.reduceMul, Nat.reduceLeDiff, Nat.reduceLT, Nat.reduceBNe, reduceCtorEq]
      have hst3 := (hst.mono hle2).mono hle3
      have hc3 := ((h.mono hle).mono hle2).mono hle3
      refine vcall (cYear c hv _ _ _ R3 hc3 y hy) ?_
      rintro R4 v hle4 rfl
      try simp only [go_sem, ↓reduceIte, Nat.reduceEqDiff, Nat.reduceAdd, Nat.reduceMul, Nat.reduceLeDiff, Nat.reduceLT, Nat.reduceBNe, reduceCtorEq]
      refine ⟨fun h7 => ?_, fun h7 => ?_⟩
      · have hbb := cBegin c hv (.slice am c.months.length cm) (.slice ar c.rules.length cr) (.slice a c.starts.length cap) R4 (hc3.mono hle4) (hst3.mono hle4) y (by omega) (m - 1).toNat (by omega)
        rw [show (((m - 1).toNat : Nat) : Int) + 1 = m by omega] at hbb
        refine vcall hbb ?_
        rintro R5 v hle5 rfl
        try simp only [go_sem, ↓reduceIte, Nat.reduceEqDiff, Nat.reduceAdd, Nat.reduceMul, Nat.reduceLeDiff, Nat.reduceLT, Nat.reduceBNe, reduceCtorEq]
        have hmm := cMonth c hv (.slice am c.months.length cm) (.slice ar c.rules.length cr) (.slice a c.starts.length cap) R5 ((hc3.mono hle4).mono hle5) y hy (m - 1).toNat (by omega)
        rw [show (((m - 1).toNat : Nat) : Int) + 1 = m by omega] at hmm
        refine vcall hmm ?_
        rintro R6 v hle6 rfl
        try simp only [go_sem, ↓reduceIte, Nat.reduceEqDiff, Nat.reduceAdd, Nat.reduceMul, Nat.reduceLeDiff, Nat.reduceLT, Nat.reduceBNe, reduceCtorEq]
        have hA : spanA c y m = c.beg y (m - 1).toNat := by rw [spanA, if_pos h7]
        have hL : spanL c y m = c.mlen y (m - 1).toNat := by rw [spanL, if_pos h7]
        have hs := sumTo_bd (f := c.mlen y) (a := 1) (b := 41) (m - 1).toNat (fun i hi => hv.mlen_bd y (by omega))
        have hb : c.beg y (m - 1).toNat = c.first y + sumTo (c.mlen y) (m - 1).toNat := rfl
        have hmb := hv.mlen_bd y (show (m - 1).toNat < c.months.length by omega)
        have hA0 : 0 ≤ c.beg y (m - 1).toNat ∧ c.beg y (m - 1).toNat ≤ 7800000 := by omega
        have hL0 : 1 ≤ c.mlen y (m - 1).toNat ∧ c.mlen y (m - 1).toNat ≤ 656 := by omega
        clear hs hb hmb hbb hmm hle5 hle6
        generalize c.beg y (m - 1).toNat = A at hA hA0 ⊢
        generalize c.mlen y (m - 1).toNat = L at hL hL0 ⊢
        have fin : ∀ D : Int, nthDay A L w n = D → n ≤ L → -L ≤ n → ((¬D < A → ∃ r, W .i64 (A + L) r ∧ (r ≤ D → Value.tuple #[.int .i64 0, .int .i64 4] = Value.tuple #[.int .i64 (nthV c y m w n), .int .i64 (nthE c y m w n)]) ∧
            (¬r ≤ D → Value.tuple #[.int .i64 D, .int .i64 0] = Value.tuple #[.int .i64 (nthV c y m w n), .int .i64 (nthE c y m w n)])) ∧ (D < A → Value.tuple #[.int .i64 0, .int .i64 4] = Value.tuple #[.int .i64 (nthV c y m w n), .int .i64 (nthE c y m w n)])) := by
          rintro D rfl g1 g2
          refine ⟨fun k1 => ⟨_, W.in64 (by omega), fun k2 => ?_, fun k2 => ?_⟩, fun k1 => ?_⟩
          · exact err 4 (by decide) (by rw [hE, hA, hL, if_neg (fun h => by have := h.2.2.2; omega)])
          · have : nthE c y m w n = 0 := by rw [hE, hA, hL, if_pos ⟨by omega, by omega, by omega, by omega⟩]
            simp [nthV, this, hA, hL]
          · exact err 4 (by decide) (by rw [hE, hA, hL, if_neg (fun h => by have := h.2.2.1; omega)])
        refine ⟨fun h8 => ⟨_, W.in64 (by omega), fun h9 => ?_, fun h9 => ⟨_, W.in64 (by omega), vcall (cmod _ 7 (by unfold I64; omega) (by unfold I64; omega) _) ?_⟩⟩, fun h8 => ?_⟩
        · exact err 4 (by decide) (by rw [hE, hA, hL, if_neg (fun h => by have := h.2.1; omega)])
        · rintro R7 v hle7 rfl
          try simp only [go_sem, ↓reduceIte, Nat.reduceEqDiff, Nat.reduceAdd, Nat.reduceMul, Nat.reduceLeDiff, Nat.reduceLT, Nat.reduceBNe, reduceCtorEq]
          have hm1 : (if (7 : Int) < 1 then 0 else (w - A) % 7) = (w - A) % 7 := rfl
          rw [hm1]
          have hb1 := Int.emod_nonneg (w - A) (show (7 : Int) ≠ 0 by decide)
          have hb2 := Int.emod_lt_of_pos (w - A) (show (0 : Int) < 7 by decide)
          refine ⟨_, W.in64 (by omega), _, W.in64 (by omega), _, W.in64 (by omega), _, W.in64 (by omega), fun h10 => ?_, fun h10 => ?_⟩
          · refine ⟨_, W.in64 (by omega), _, W.in64 (by omega), _, W.in64 (by omega), vcall (cmod _ 7 (by unfold I64; omega) (by unfold I64; omega) _) ?_⟩
            rintro R8 v hle8 rfl
            try simp only [go_sem, ↓reduceIte, Nat.reduceEqDiff, Nat.reduceAdd, Nat.reduceMul, Nat.reduceLeDiff, Nat.reduceLT, Nat.reduceBNe, reduceCtorEq]
            rw [show (if (7 : Int) < 1 then 0 else (A + L - 1 - w) % 7) = (A + L - 1 - w) % 7 from rfl]
            have hb3 := Int.emod_nonneg (A + L - 1 - w) (show (7 : Int) ≠ 0 by decide)
            have hb4 := Int.emod_lt_of_pos (A + L - 1 - w) (show (0 : Int) < 7 by decide)
            refine ⟨_, W.in64 (by omega), _, W.in64 (by omega), _, W.in64 (by omega), _, W.in64 (by omega), ?_⟩
            exact fin _ (by rw [nthDay, if_pos h10]) (by omega) (by omega)
          · exact fin _ (by rw [nthDay, if_neg h10]) (by omega) (by omega)
        · exact err 4 (by decide) (by rw [hE, hA, hL, if_neg (fun h => by have := h.1; omega)])
      · have hA : spanA c y m = c.first y := by rw [spanA, if_neg h7]
        have hL : spanL c y m = c.ylen y := by rw [spanL, if_neg h7]
        have hA0 : 0 ≤ c.first y ∧ c.first y ≤ 7800000 := by omega
        have hL0 : 1 ≤ c.ylen y ∧ c.ylen y ≤ 656 := by omega
        generalize c.first y = A at hA hA0 ⊢
        generalize c.ylen y = L at hL hL0 ⊢
        have fin : ∀ D : Int, nthDay A L w n = D → n ≤ L → -L ≤ n → ((¬D < A → ∃ r, W .i64 (A + L) r ∧ (r ≤ D → Value.tuple #[.int .i64 0, .int .i64 4] = Value.tuple #[.int .i64 (nthV c y m w n), .int .i64 (nthE c y m w n)]) ∧
            (¬r ≤ D → Value.tuple #[.int .i64 D, .int .i64 0] = Value.tuple #[.int .i64 (nthV c y m w n), .int .i64 (nthE c y m w n)])) ∧ (D < A → Value.tuple #[.int .i64 0, .int .i64 4] = Value.tuple #[.int .i64 (nthV c y m w n), .int .i64 (nthE c y m w n)])) := by
          rintro D rfl g1 g2
          refine ⟨fun k1 => ⟨_, W.in64 (by omega), fun k2 => ?_, fun k2 => ?_⟩, fun k1 => ?_⟩
          · exact err 4 (by decide) (by rw [hE, hA, hL, if_neg (fun h => by have := h.2.2.2; omega)])
          · have : nthE c y m w n = 0 := by rw [hE, hA, hL, if_pos ⟨by omega, by omega, by omega, by omega⟩]
            simp [nthV, this, hA, hL]
          · exact err 4 (by decide) (by rw [hE, hA, hL, if_neg (fun h => by have := h.2.2.1; omega)])
        refine ⟨fun h8 => ⟨_, W.in64 (by omega), fun h9 => ?_, fun h9 => ⟨_, W.in64 (by omega), vcall (cmod _ 7 (by unfold I64; omega) (by unfold I64; omega) _) ?_⟩⟩, fun h8 => ?_⟩
        · exact err 4 (by decide) (by rw [hE, hA, hL, if_neg (fun h => by have := h.2.1; omega)])
        · rintro R7 v hle7 rfl
          try simp only [go_sem, ↓reduceIte, Nat.reduceEqDiff, Nat.reduceAdd, Nat.reduceMul, Nat.reduceLeDiff, Nat.reduceLT, Nat.reduceBNe, reduceCtorEq]
          have hm1 : (if (7 : Int) < 1 then 0 else (w - A) % 7) = (w - A) % 7 := rfl
          rw [hm1]
          have hb1 := Int.emod_nonneg (w - A) (show (7 : Int) ≠ 0 by decide)
          have hb2 := Int.emod_lt_of_pos (w - A) (show (0 : Int) < 7 by decide)
          refine ⟨_, W.in64 (by omega), _, W.in64 (by omega), _, W.in64 (by omega), _, W.in64 (by omega), fun h10 => ?_, fun h10 => ?_⟩
          · refine ⟨_, W.in64 (by omega), _, W.in64 (by omega), _, W.in64 (by omega), vcall (cmod _ 7 (by unfold I64; omega) (by unfold I64; omega) _) ?_⟩
            rintro R8 v hle8 rfl
            try simp only [go_sem, ↓reduceIte, Nat.reduceEqDiff, Nat.reduceAdd, Nat.reduceMul, Nat.reduceLeDiff, Nat.reduceLT, Nat.reduceBNe, reduceCtorEq]
            rw [show (if (7 : Int) < 1 then 0 else (A + L - 1 - w) % 7) = (A + L - 1 - w) % 7 from rfl]
            have hb3 := Int.emod_nonneg (A + L - 1 - w) (show (7 : Int) ≠ 0 by decide)
            have hb4 := Int.emod_lt_of_pos (A + L - 1 - w) (show (0 : Int) < 7 by decide)
            refine ⟨_, W.in64 (by omega), _, W.in64 (by omega), _, W.in64 (by omega), _, W.in64 (by omega), ?_⟩
            exact fin _ (by rw [nthDay, if_pos h10]) (by omega) (by omega)
          · exact fin _ (by rw [nthDay, if_neg h10]) (by omega) (by omega)
        · exact err 4 (by decide) (by rw [hE, hA, hL, if_neg (fun h => by have := h.1; omega)])
    · exact err 4 (by decide) (by rw [nthE, if_neg (fun h => by rcases h with h | h; exact h hv; omega), if_neg (fun h => h h4), if_pos (by omega)])
end Go.Proofs.Ytpbnjoopgignoaa
