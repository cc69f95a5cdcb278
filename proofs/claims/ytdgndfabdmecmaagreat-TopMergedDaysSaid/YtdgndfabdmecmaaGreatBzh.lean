/- Lemmas of our own, no statement of the seat; the last one of the claim's texts proves the law. -/
import Derived.ProofKit
import Derived.SizedLaws
import Derived.Deep.Slices
import Derived.Deep.Fields
import Derived.Lib.SmallJoins
import Derived.Test.YtdgndfabdmecmaaGreatBzg
import Derived.Test.YtdgndfabdmecmaaGreatBze
import Derived.Test.YtdgndfabdmecmaaGreatBzd
import Derived.Test.YtdgndfabdmecmaaGreatRows
import Derived.Test.YtdgndfabdmecmaaGreatVcI
import Derived.Test.YtdgndfabdmecmaaGreatBzf
open Nat renaming reduceEqDiff → Qa, reduceAdd → Qb, reduceMul → Qc, reduceLeDiff → Qd, reduceLT → Qe, reduceBNe → Qf
open Int renaming reduceLE → Ja, reduceLT → Jb, reduceToNat → Jc, cast_ofNat_Int → Jd, reduceEq → Je, reduceNe → Jf
set_option linter.unusedSimpArgs false
set_option linter.unusedVariables false
namespace Go.Proofs.YtdgndfabdmecmaaGreat
open Go.Proofs.YtdgndfabdmecmaaGreat.Vc
theorem rSome13 (n : Int) (hn : 0 ≤ n ∧ n ≤ 255) (R : RO) : CallsR Tryz.prog 23 [.int .u8 n] R fun _ v => ∃ o, v = .int .i64 o ∧ -1080 ≤ o ∧ o ≤ 1080 := by
 refine callsT mix Tryz.func23 comp23 (by simp [Tryz.ntmps23]) ?_; simp only [go_sem, ↓reduceIte, Qa, Qb, Qc, Qd, Qe, Qf, reduceCtorEq, vc23, rs23]
 have h8 : n.tmod 8 = 0 ∨ n.tmod 8 = 1 ∨ n.tmod 8 = 2 ∨ n.tmod 8 = 3 ∨ n.tmod 8 = 4 ∨ n.tmod 8 = 5 ∨ n.tmod 8 = 6 ∨ n.tmod 8 = 7 := by
  rw [Int.tmod_eq_emod_of_nonneg hn.1]
  omega
 refine ⟨by decide, by omega, by omega, ?_⟩
 rcases h8 with h | h | h | h | h | h | h | h <;> rw [h] <;> exact ⟨_, rfl, _, rfl, by omega, by omega⟩
structure Rw where
 st : Int
 gaps : List Int
 offs : List Int
 beh : Int
 y0 : Int
 y1 : Int
 y2 : Int
 y3 : Int
 y4 : Int
 y5 : Int
 y6 : Int
 y7 : Int
 cal : Int
 rules : Bool
def U8s (R : RO) (v : Value) (l : List Int) : Prop := ∃ a cap, v = .slice a l.length cap ∧ l.length ≤ cap ∧ ∀ i (hi : i < l.length), ∃ ad, a = some ad ∧ ∀ j u, ([Value.int .u8 l[i]] : List Value)[j]? = some u → R ((ad.add (i * 1)).add j) u
theorem U8s.form {R : RO} {v : Value} {l : List Int} (h : U8s R v l) : ∃ a cap, v = .slice a l.length cap ∧ l.length ≤ cap ∧ ∀ i (hi : i < l.length), ∃ ad, a = some ad ∧ ∀ j u, ([Value.int .u8 l[i]] : List Value)[j]? = some u → R ((ad.add (i * 1)).add j) u := h
theorem U8s.mono {R R' : RO} {v : Value} {l : List Int} (h : U8s R v l) (hle : RO.le R R') : U8s R' v l := by
 obtain ⟨a, cap, e, hc, hf⟩ := h
 refine ⟨a, cap, e, hc, fun i hi => ?_⟩
 obtain ⟨ad, had, hR⟩ := hf i hi
 exact ⟨ad, had, fun j u hj => hle _ _ (hR j u hj)⟩
def Rw.cells (w : Rw) (g o : Value) : List Value := [.int .u8 w.st, g, o, .int .u8 w.beh, .int .u8 w.y0, .int .u8 w.y1, .int .u8 w.y2, .int .u8 w.y3, .int .u8 w.y4, .int .u8 w.y5, .int .u8 w.y6, .int .u8 w.y7, .int .u8 w.cal, .bool w.rules]
structure RwOK (w : Rw) : Prop where
 st : 0 ≤ w.st ∧ w.st ≤ 255
 beh : 0 ≤ w.beh ∧ w.beh ≤ 255
 y : ∀ x ∈ [w.y0, w.y1, w.y2, w.y3, w.y4, w.y5, w.y6, w.y7], 0 ≤ x ∧ x ≤ 255
 cal : 0 ≤ w.cal ∧ w.cal ≤ 255
 gaps : ∀ x ∈ w.gaps, 0 ≤ x ∧ x ≤ 255
 offs : ∀ x ∈ w.offs, 0 ≤ x ∧ x ≤ 255
theorem W_u8 {r : Int} (h : 0 ≤ r ∧ r ≤ 255) : W .u8 r r := by
 unfold W; rw [IntKind.wrap_u8]; omega
theorem calIn_mk {R : RO} (c : Cal) (b1 c1 : Nat) (sr : Value) (h1 : RowIn R b1 (c.months.map (.int .i64))) (h2 : c.months.length ≤ c1) (hb : ∀ m ∈ c.months, I64 m) (hr : RulesIn R sr c.rules) (he : I64 c.epoch) (hl : I64 c.leap) (hn : c.months.length ≤ 1000) : CalIn R c (.slice (some ⟨b1, 0, none⟩) c.months.length c1) sr :=
 ⟨⟨RowIn.ints h1 (by omega), hb, by omega⟩, hr, he, hl⟩
def cA13 : Cal := ⟨2, [7, 6], -1, []⟩
def cB13 (q : Int) : Cal := ⟨5, [7, 8], 1, [(2, q, true)]⟩
theorem cA13_ok : cA13.valid := by decide
theorem cB13_ok (q : Int) (h : q = 0 ∨ q = 1) : (cB13 q).valid := by rcases h with rfl | rfl <;> decide
structure TrG (T : List Tr) (at' : Int) : Prop where
 bd : ∀ x ∈ T, (-1080 ≤ x.off ∧ x.off ≤ 1080) ∧ 0 ≤ x.pos ∧ x.pos ≤ at'
 gap : ∀ i (h : i + 1 < T.length), 2160 ≤ T[i + 1].pos - T[i].pos
theorem TrG.snoc {T : List Tr} {at' d o : Int} (h : TrG T at') (ha : 0 ≤ at') (hd : 2160 ≤ d) (ho : -1080 ≤ o ∧ o ≤ 1080) : TrG (T ++ [⟨at' + d, o⟩]) (at' + d) := by
 refine ⟨fun x hx => ?_, fun i hi => ?_⟩
 ·rcases List.mem_append.1 hx with hx | hx
  ·have := h.bd x hx; omega
  ·simp only [List.mem_singleton] at hx
   subst hx
   exact ⟨ho, by dsimp only; omega, Int.le_refl _⟩
 ·simp only [List.length_append, List.length_cons, List.length_nil] at hi
  rcases Nat.lt_or_ge (i + 1) T.length with h1 | h1
  ·rw [List.getElem_append_left h1, List.getElem_append_left (by omega)]
   exact h.gap i h1
  ·have : i + 1 = T.length := by omega
   rw [List.getElem_append_left (by omega : i < T.length)]
   simp only [List.getElem_append_right (by omega : T.length ≤ i + 1), this, Nat.sub_self, List.getElem_cons_zero]
   have := (h.bd T[i] (List.getElem_mem _)).2.2
   rw [List.getElem_append_right (by omega : T.length ≤ T.length)]
   simp only [Nat.sub_self, List.getElem_cons_zero]
   omega
def rowYr (l : List Yr) : List Value := (l.map Yr.cells).flatten
def MadeZ (R' : RO) (v : Value) : Prop := ∃ z n L, v = .agg (Zv.cells z).toArray ∧ ZnIn R' z n ∧ ZnOK n L
def r9 : VCode := vR (vR (vR vc9))
def r10 : VCode := vR (vR r9)
def r11 : VCode := vR (vR r10)
def r12 : VCode := vR r11
set_option maxHeartbeats 4000000 in
theorem made13_end (c : Cal) (hv : c.valid) (hm2 : c.months.length = 2) (ma ra : Option Addr) (mc rc : Nat) (so hor : Int) (hso : -1080 ≤ so ∧ so ≤ 1080) (T : List Tr) (Y : List Yr) (hP : ∀ Y', Y' = Y ∨ Y' = [] → ZnPre ⟨c, so, T, hor, Y'⟩) (hT0 : T.length ≤ 3) (hY2 : Y.length = 2) (R : RO)
  (hC : CalIn R c (.slice ma 2 mc) (.slice ra c.rules.length rc)) (raw : List SV) (env : Nat → SV) (e1 : env 1 = .loc 0 0) (e2 : env 2 = .loc 1 0) (e3 : env 3 = .loc 2 0) (dl : List Blk) :
  CodeT ⟨Tryz.prog, 0⟩ r12 ⟨env, .box raw :: .box [.val (.int .i64 0), .val (.slice none 0 0), .val (.int .i64 0), .val (.slice none 0 0), .val (.int .i64 0), .val (.slice none 0 0), .val (.int .i64 0), .val (.slice none 0 0)] ::
   .box [.val (.int .i64 c.epoch), .val (.slice ma 2 mc), .val (.int .i64 c.leap), .val (.slice ra c.rules.length rc), .val (.int .i64 so), gs 3 T.length, .val (.int .i64 hor), .sl 4 Y.length] :: gb 95 2 (rowTr T) :: .row 97 5 (rowYr Y) :: dl, R⟩
   (fun s => RetT rs9 s (fun vs s' => MadeZ s'.R (resVal vs)) .mk) (fun _ _ => False) (fun s => RetT rs9 s (fun vs s' => MadeZ s'.R (resVal vs)) .mk) .mk .mk .mk := by
 have hYE : ∀ (b cap : Nat) (R' : RO), RowIn R' b (rowYr Y) → (rowYr Y).length ≤ cap * 5 → EncV Yr.cells 5 R' (.slice (some ⟨b, 0, none⟩) Y.length cap) Y := fun b cap R' h1 h2 => RowIn.enc (fun _ => rfl) (by omega) h1 h2 (by omega)
 have hTE : ∀ (b cap : Nat) (R' : RO), RowIn R' b (rowTr T) → (rowTr T).length ≤ cap * 2 → TrV R' (.slice (some ⟨b, 0, none⟩) T.length cap) T := fun b cap R' h1 h2 => RowIn.enc (fun _ => rfl) (by omega) h1 h2 (by omega)
 unfold r12 r11 r10 r9
 by_cases hT : T = []
 ·subst hT
  rw [List.length_nil, gs_zero]
  simp only [go_sem, ↓reduceIte, Qa, Qb, Qc, Qd, Qe, Qf, reduceCtorEq, vR, vc9, rs9, e1, e2, e3]
  intro b cap R2 hle2 hrow hcap hfr
  try simp only [go_sem, ↓reduceIte, Qa, Qb, Qc, Qd, Qe, Qf, reduceCtorEq]
  have hz : ZnIn R2 ⟨c.epoch, ma, 2, mc, c.leap, ra, c.rules.length, rc, so, none, 0, 0, hor, some ⟨b, 0, none⟩, Y.length, cap⟩ ⟨c, so, [], hor, Y⟩ := ⟨rfl, rfl, hC.mono hle2, rfl, rfl, EncV.nil _ _ _, hYE b cap R2 hrow hcap⟩
  have hV := rValid13 _ _ R2 hz (hP Y (.inl rfl))
  simp only [Zv.cells] at hV
  refine vcall hV ?_
  rintro R3 r hle3 ⟨e, rfl, he⟩
  try simp only [go_sem, ↓reduceIte, Qa, Qb, Qc, Qd, Qe, Qf, reduceCtorEq, e1, e2, e3]
  refine ⟨fun hne => ?_, fun heq => ?_⟩
  ·exact ⟨⟨c.epoch, ma, 2, mc, c.leap, ra, c.rules.length, rc, so, none, 0, 0, hor, none, 0, 0⟩, ⟨c, so, [], hor, []⟩, [], rfl, ⟨rfl, rfl, hC.mono (RO.le_trans hle2 hle3), rfl, rfl, EncV.nil _ _ _, EncV.nil _ _ _⟩, (hP [] (.inr rfl)).ok0 rfl⟩
  ·obtain ⟨L, hL⟩ := he heq
   exact ⟨_, _, L, rfl, hz.mono hle3, hL⟩
 ·have hn0 : T.length ≠ 0 := fun e => hT (List.eq_nil_of_length_eq_zero e)
  have hrw : rowTr T ≠ [] := fun e => by have := rowTr_len T; rw [e] at this; simp at this; omega
  rw [gs_pos hn0, gb_ne hrw]
  simp only [go_sem, ↓reduceIte, Qa, Qb, Qc, Qd, Qe, Qf, reduceCtorEq, vR, vc9, rs9, e1, e2, e3]
  intro b0 cap0 R1 hle1 hrow0 hcap0 hfr0 b cap R2 hle2 hrow hcap hfr
  try simp only [go_sem, ↓reduceIte, Qa, Qb, Qc, Qd, Qe, Qf, reduceCtorEq]
  have hz : ZnIn R2 ⟨c.epoch, ma, 2, mc, c.leap, ra, c.rules.length, rc, so, some ⟨b0, 0, none⟩, T.length, cap0, hor, some ⟨b, 0, none⟩, Y.length, cap⟩ ⟨c, so, T, hor, Y⟩ := ⟨rfl, rfl, hC.mono (RO.le_trans hle1 hle2), rfl, rfl, hTE b0 cap0 R2 (hrow0.mono hle2) hcap0, hYE b cap R2 hrow hcap⟩
  have hV := rValid13 _ _ R2 hz (hP Y (.inl rfl))
  simp only [Zv.cells] at hV
  refine vcall hV ?_
  rintro R3 r hle3 ⟨e, rfl, he⟩
  try simp only [go_sem, ↓reduceIte, Qa, Qb, Qc, Qd, Qe, Qf, reduceCtorEq, e1, e2, e3]
  refine ⟨fun hne => ?_, fun heq => ?_⟩
  ·exact ⟨⟨c.epoch, ma, 2, mc, c.leap, ra, c.rules.length, rc, so, some ⟨b0, 0, none⟩, T.length, cap0, hor, none, 0, 0⟩, ⟨c, so, T, hor, []⟩, [], rfl, ⟨rfl, rfl, hC.mono (RO.le_trans hle1 (RO.le_trans hle2 hle3)), rfl, rfl, hTE b0 cap0 R3 (hrow0.mono (RO.le_trans hle2 hle3)) hcap0, EncV.nil _ _ _⟩, (hP [] (.inr rfl)).ok0 rfl⟩
  ·obtain ⟨L, hL⟩ := he heq
   exact ⟨_, _, L, rfl, hz.mono hle3, hL⟩
set_option maxHeartbeats 4000000 in
theorem made13_b (c : Cal) (hv : c.valid) (hm2 : c.months.length = 2) (ma ra : Option Addr) (mc rc : Nat) (so at' beh y0 y1 y2 y3 y4 y5 y6 y7 : Int) (rules : Bool) (v0 v1 v2 v12 : Value) (hso : -1080 ≤ so ∧ so ≤ 1080) (hbeh : 0 ≤ beh ∧ beh ≤ 255) (hy : ∀ x ∈ [y0, y1, y2, y3, y4, y5, y6, y7], 0 ≤ x ∧ x ≤ 255) (hat : 0 ≤ at' ∧ at' ≤ 21780) (T : List Tr) (hT : T.length ≤ 3) (hTG : TrG T at') (R : RO)
  (hC : CalIn R c (.slice ma 2 mc) (.slice ra c.rules.length rc)) (env : Nat → SV) (e1 : env 1 = .loc 0 0) (e2 : env 2 = .loc 1 0) (e3 : env 3 = .loc 2 0) (e4 : env 4 = .val (.int .i64 at')) (dl : List Blk) :
  CodeT ⟨Tryz.prog, 0⟩ r10 ⟨env, .box [.val v0, .val v1, .val v2, .val (.int .u8 beh), .val (.int .u8 y0), .val (.int .u8 y1), .val (.int .u8 y2), .val (.int .u8 y3), .val (.int .u8 y4), .val (.int .u8 y5), .val (.int .u8 y6), .val (.int .u8 y7), .val v12, .val (.bool rules)] :: .box [.val (.int .i64 0), .val (.slice none 0 0), .val (.int .i64 0), .val (.slice none 0 0), .val (.int .i64 0), .val (.slice none 0 0), .val (.int .i64 0), .val (.slice none 0 0)] ::
   .box [.val (.int .i64 c.epoch), .val (.slice ma 2 mc), .val (.int .i64 c.leap), .val (.slice ra c.rules.length rc), .val (.int .i64 so), gs 3 T.length, .val (.int .i64 0), .val (.slice none 0 0)] :: gb 95 2 (rowTr T) :: dl, R⟩
   (fun s => RetT rs9 s (fun vs s' => MadeZ s'.R (resVal vs)) .mk) (fun _ _ => False) (fun s => RetT rs9 s (fun vs s' => MadeZ s'.R (resVal vs)) .mk) .mk .mk .mk := by
 obtain ⟨hor, hho⟩ : ∃ hor, hor = at' + 2160 + 20 * beh := ⟨_, rfl⟩
 have hTE : ∀ (b cap : Nat) (R' : RO), RowIn R' b (rowTr T) → (rowTr T).length ≤ cap * 2 → TrV R' (.slice (some ⟨b, 0, none⟩) T.length cap) T := fun b cap R' h1 h2 => RowIn.enc (fun _ => rfl) (by omega) h1 h2 (by omega)
 have hPre : ∀ Y : List Yr, (Y = [] ∨ ∃ r0 r1, Y = [r0, r1] ∧ (YrOK c r0 ∧ (r0.week = 1 ∨ r0.week = 5)) ∧ (YrOK c r1 ∧ (r1.week = 1 ∨ r1.week = 5))) → ZnPre ⟨c, so, T, hor, Y⟩ := fun Y hY =>
  ⟨hv, hso, by dsimp only; omega, by dsimp only; omega, fun x hx => by have := hTG.bd x hx; dsimp only; omega, hTG.gap, hY⟩
 show CodeT _ (.seq (vL r10) (.seq (vL (vR r10)) r11)) _ _ _ _ .mk .mk .mk
 by_cases hru : rules = false
 ·subst hru
  unfold r10 r9
  by_cases hT0 : T = []
  ·subst hT0
   rw [List.length_nil, gs_zero]
   simp only [go_sem, ↓reduceIte, Qa, Qb, Qc, Qd, Qe, Qf, reduceCtorEq, vL, vR, vc9, rs9, e1, e2, e3, e4]
   refine ⟨_, W.in64 (by omega), _, W.in64 (by omega), _, W.in64 (by omega), _, W.in64 (by omega), ?_⟩
   rw [← hho]
   exact ⟨⟨c.epoch, ma, 2, mc, c.leap, ra, c.rules.length, rc, so, none, 0, 0, hor, none, 0, 0⟩, ⟨c, so, [], hor, []⟩, [], rfl, ⟨rfl, rfl, hC, rfl, rfl, EncV.nil _ _ _, EncV.nil _ _ _⟩, (hPre [] (.inl rfl)).ok0 rfl⟩
  ·have hn0 : T.length ≠ 0 := fun e => hT0 (List.eq_nil_of_length_eq_zero e)
   have hrw : rowTr T ≠ [] := fun e => by have := rowTr_len T; rw [e] at this; simp at this; omega
   rw [gs_pos hn0, gb_ne hrw]
   simp only [go_sem, ↓reduceIte, Qa, Qb, Qc, Qd, Qe, Qf, reduceCtorEq, vL, vR, vc9, rs9, e1, e2, e3, e4]
   refine ⟨_, W.in64 (by omega), _, W.in64 (by omega), _, W.in64 (by omega), _, W.in64 (by omega), ?_⟩
   rw [← hho]
   intro b0 cap0 R1 hle1 hrow0 hcap0 hfr0
   try simp only [go_sem, ↓reduceIte, Qa, Qb, Qc, Qd, Qe, Qf, reduceCtorEq]
   exact ⟨⟨c.epoch, ma, 2, mc, c.leap, ra, c.rules.length, rc, so, some ⟨b0, 0, none⟩, T.length, cap0, hor, none, 0, 0⟩, ⟨c, so, T, hor, []⟩, [], rfl, ⟨rfl, rfl, hC.mono hle1, rfl, rfl, hTE b0 cap0 R1 hrow0 hcap0, EncV.nil _ _ _⟩, (hPre [] (.inl rfl)).ok0 rfl⟩
 obtain rfl : rules = true := by simpa using hru
 unfold r10 r9
 simp only [go_sem, ↓reduceIte, Qa, Qb, Qc, Qd, Qe, Qf, reduceCtorEq, vL, vR, vc9, rs9, e1, e2, e3, e4]
 refine ⟨_, W.in64 (by omega), _, W.in64 (by omega), _, W.in64 (by omega), _, W.in64 (by omega), ?_⟩
 rw [← hho]
 show CodeT _ (.seq (vL r11) r12) _ _ _ _ .mk .mk .mk
 unfold r11 r10 r9
 simp only [go_sem, ↓reduceIte, Qa, Qb, Qc, Qd, Qe, Qf, reduceCtorEq, vL, vR, vc9, e1, e2, e3, e4]
 refine vcLoopR (Nat × List Yr) (fun x => [(6, .val (.int .i64 x.1)), (1, .loc 0 0), (2, .loc 1 0), (3, .loc 2 0)])
  (fun x => [.box [.val v0, .val v1, .val v2, .val (.int .u8 beh), .val (.int .u8 y0), .val (.int .u8 y1), .val (.int .u8 y2), .val (.int .u8 y3), .val (.int .u8 y4), .val (.int .u8 y5), .val (.int .u8 y6), .val (.int .u8 y7), .val v12, .val (.bool true)], .box [.val (.int .i64 0), .val (.slice none 0 0), .val (.int .i64 0), .val (.slice none 0 0), .val (.int .i64 0), .val (.slice none 0 0), .val (.int .i64 0), .val (.slice none 0 0)],
   .box [.val (.int .i64 c.epoch), .val (.slice ma 2 mc), .val (.int .i64 c.leap), .val (.slice ra c.rules.length rc), .val (.int .i64 so), gs 3 T.length, .val (.int .i64 hor), gs 4 x.2.length], gb 95 2 (rowTr T), gb 97 5 (rowYr x.2)])
  (fun x _ => x.1 ≤ 2 ∧ x.2.length = x.1 ∧ ∀ r ∈ x.2, YrOK c r ∧ (r.week = 1 ∨ r.week = 5)) (fun x => 2 - x.1) (0, []) [] ?_ ?_ ?_ ?_
 ·try simp only [go_sem, ↓reduceIte, Qa, Qb, Qc, Qd, Qe, Qf, reduceCtorEq, e1, e2, e3]
  exact ⟨rfl, fun h => gb_ne h, fun h => absurd rfl h⟩
 ·try simp only [go_sem, ↓reduceIte, Qa, Qb, Qc, Qd, Qe, Qf, reduceCtorEq]
 ·exact ⟨by omega, rfl, by simp⟩
 rintro ⟨k, Y⟩ env2 R1 hle1 hE ⟨hk2, hYl, hYok⟩
 dsimp only at hk2 hYl hYok
 (simp only [go_sem] at hE; obtain ⟨g6, g1, g2, g3⟩ := hE; simp only [go_sem, ↓reduceIte, Qa, Qb, Qc, Qd, Qe, Qf, reduceCtorEq, g6, g1, g2, g3]; dsimp only at *)
 refine ⟨fun hlt => ?_, fun hge => ?_⟩
 ·rcases (by omega : k = 0 ∨ k = 1) with rfl | rfl
  ·obtain rfl : Y = [] := List.eq_nil_of_length_eq_zero hYl
   have hgb : gb 97 5 (rowYr []) = .dead := rfl
   try simp only [go_sem, ↓reduceIte, Qa, Qb, Qc, Qd, Qe, Qf, reduceCtorEq, g6, g1, g2, g3, hgb]
   refine ⟨by decide, ?_⟩
   try simp only [go_sem, ↓reduceIte, Qa, Qb, Qc, Qd, Qe, Qf, reduceCtorEq, g6, g1, g2, g3, hgb, Int.cast_ofNat_Int, Int.reduceLE, Int.reduceLT, Int.reduceToNat]
   have t3 : 0 ≤ y0.tmod 3 ∧ y0.tmod 3 ≤ 2 := by have := hy y0 (by simp); rw [Int.tmod_eq_emod_of_nonneg this.1]; omega
   have t1 := hy y1 (by simp)
   have t5 : 0 ≤ y2.tmod 5 ∧ y2.tmod 5 ≤ 255 := by have := hy y2 (by simp); rw [Int.tmod_eq_emod_of_nonneg this.1]; omega
   have t2 : y3.tmod 2 = 0 ∨ y3.tmod 2 = 1 := by have := hy y3 (by simp); rw [Int.tmod_eq_emod_of_nonneg this.1]; omega
   refine ⟨_, W.in64 (by omega), by decide, _, W.in64 (by omega), _, W.in64 (by omega), _, W.in64 (by omega), by decide, ?_⟩
   refine vcall (rSome13 _ t5 R1) ?_
   rintro R2 r hle2 ⟨w, rfl, hw⟩
   try simp only [go_sem, ↓reduceIte, Qa, Qb, Qc, Qd, Qe, Qf, reduceCtorEq, g6, g1, g2, g3, hgb]
   try simp only [go_sem, ↓reduceIte, Qa, Qb, Qc, Qd, Qe, Qf, reduceCtorEq, g6, g1, g2, g3, hgb, Int.cast_ofNat_Int, Int.reduceLE, Int.reduceLT, Int.reduceToNat]
   refine ⟨by decide, fun h5 => ?_, fun h5 => ?_⟩
   ·refine ⟨_, W.in64 (by omega), (1, [⟨1 + 0, 5, y0.tmod 3, y1 * 5, w⟩]), [0, 1, 2, 3, 7], by dsimp only; omega, ⟨⟨rfl, rfl, rfl, rfl⟩, rfl, rfl, rfl, fun h => congrArg some (gb_ne h), fun _ => rfl⟩, ?_, by dsimp only; omega, rfl, ?_⟩
    ·first | decide | (try simp only [go_sem, ↓reduceIte, Qa, Qb, Qc, Qd, Qe, Qf, reduceCtorEq]; decide) | trace_state
    ·intro r hr
     simp only [List.mem_cons, List.not_mem_nil, or_false] at hr
     subst hr
     ·exact ⟨⟨by dsimp only; omega, by dsimp only; omega, by dsimp only; omega, by dsimp only; omega, hw⟩, .inr rfl⟩
   ·refine ⟨_, W.in64 (by omega), (1, [⟨1 + 0, 1, y0.tmod 3, y1 * 5, w⟩]), [0, 1, 2, 3, 7], by dsimp only; omega, ⟨⟨rfl, rfl, rfl, rfl⟩, rfl, rfl, rfl, fun h => congrArg some (gb_ne h), fun _ => rfl⟩, ?_, by dsimp only; omega, rfl, ?_⟩
    ·first | decide | (try simp only [go_sem, ↓reduceIte, Qa, Qb, Qc, Qd, Qe, Qf, reduceCtorEq]; decide) | trace_state
    ·intro r hr
     simp only [List.mem_cons, List.not_mem_nil, or_false] at hr
     subst hr
     ·exact ⟨⟨by dsimp only; omega, by dsimp only; omega, by dsimp only; omega, by dsimp only; omega, hw⟩, .inl rfl⟩
  ·obtain ⟨r0, rfl⟩ := List.length_eq_one_iff.1 hYl
   have hgb : gb 97 5 (rowYr [r0]) = .row 97 5 [.int .i64 r0.month, .int .i64 r0.week, .int .i64 r0.wday, .int .i64 r0.minute, .int .i64 r0.off] := gb_ne (by simp [rowYr, Yr.cells])
   try simp only [go_sem, ↓reduceIte, Qa, Qb, Qc, Qd, Qe, Qf, reduceCtorEq, g6, g1, g2, g3, hgb]
   refine ⟨by decide, ?_⟩
   try simp only [go_sem, ↓reduceIte, Qa, Qb, Qc, Qd, Qe, Qf, reduceCtorEq, g6, g1, g2, g3, hgb, Int.cast_ofNat_Int, Int.reduceLE, Int.reduceLT, Int.reduceToNat]
   have t3 : 0 ≤ y4.tmod 3 ∧ y4.tmod 3 ≤ 2 := by have := hy y4 (by simp); rw [Int.tmod_eq_emod_of_nonneg this.1]; omega
   have t1 := hy y5 (by simp)
   have t5 : 0 ≤ y6.tmod 5 ∧ y6.tmod 5 ≤ 255 := by have := hy y6 (by simp); rw [Int.tmod_eq_emod_of_nonneg this.1]; omega
   have t2 : y7.tmod 2 = 0 ∨ y7.tmod 2 = 1 := by have := hy y7 (by simp); rw [Int.tmod_eq_emod_of_nonneg this.1]; omega
   refine ⟨_, W.in64 (by omega), by decide, _, W.in64 (by omega), _, W.in64 (by omega), _, W.in64 (by omega), by decide, ?_⟩
   refine vcall (rSome13 _ t5 R1) ?_
   rintro R2 r hle2 ⟨w, rfl, hw⟩
   try simp only [go_sem, ↓reduceIte, Qa, Qb, Qc, Qd, Qe, Qf, reduceCtorEq, g6, g1, g2, g3, hgb]
   try simp only [go_sem, ↓reduceIte, Qa, Qb, Qc, Qd, Qe, Qf, reduceCtorEq, g6, g1, g2, g3, hgb, Int.cast_ofNat_Int, Int.reduceLE, Int.reduceLT, Int.reduceToNat]
   refine vappO [.int .i64 r0.month, .int .i64 r0.week, .int .i64 r0.wday, .int .i64 r0.minute, .int .i64 r0.off] rfl rfl (by omega) ?_
   try simp only [go_sem, ↓reduceIte, Qa, Qb, Qc, Qd, Qe, Qf, reduceCtorEq, g6, g1, g2, g3, hgb, Int.cast_ofNat_Int, Int.reduceLE, Int.reduceLT, Int.reduceToNat]
   refine ⟨by decide, fun h5 => ?_, fun h5 => ?_⟩
   ·refine ⟨_, W.in64 (by omega), (2, [r0, ⟨1 + 1, 5, y4.tmod 3, y5 * 5, w⟩]), [0, 1, 2, 3, 7], by dsimp only; omega, ⟨⟨rfl, rfl, rfl, rfl⟩, rfl, rfl, rfl, fun h => congrArg some (gb_ne h), fun _ => rfl⟩, ?_, by dsimp only; omega, rfl, ?_⟩
    ·first | decide | (try simp only [go_sem, ↓reduceIte, Qa, Qb, Qc, Qd, Qe, Qf, reduceCtorEq]; decide) | trace_state
    ·intro r hr
     simp only [List.mem_cons, List.not_mem_nil, or_false] at hr
     rcases hr with rfl | rfl
     ·exact hYok _ (by simp)
     ·exact ⟨⟨by dsimp only; omega, by dsimp only; omega, by dsimp only; omega, by dsimp only; omega, hw⟩, .inr rfl⟩
   ·refine ⟨_, W.in64 (by omega), (2, [r0, ⟨1 + 1, 1, y4.tmod 3, y5 * 5, w⟩]), [0, 1, 2, 3, 7], by dsimp only; omega, ⟨⟨rfl, rfl, rfl, rfl⟩, rfl, rfl, rfl, fun h => congrArg some (gb_ne h), fun _ => rfl⟩, ?_, by dsimp only; omega, rfl, ?_⟩
    ·first | decide | (try simp only [go_sem, ↓reduceIte, Qa, Qb, Qc, Qd, Qe, Qf, reduceCtorEq]; decide) | trace_state
    ·intro r hr
     simp only [List.mem_cons, List.not_mem_nil, or_false] at hr
     rcases hr with rfl | rfl
     ·exact hYok _ (by simp)
     ·exact ⟨⟨by dsimp only; omega, by dsimp only; omega, by dsimp only; omega, by dsimp only; omega, hw⟩, .inl rfl⟩
 ·obtain rfl : k = 2 := by omega
  obtain ⟨r0, r1, rfl⟩ : ∃ r0 r1, Y = [r0, r1] := by
   rcases Y with _ | ⟨r0, _ | ⟨r1, _ | _⟩⟩
   ·simp at hYl
   ·simp at hYl
   ·exact ⟨_, _, rfl⟩
   ·simp at hYl
  refine made13_end c hv hm2 ma ra mc rc so hor hso T [r0, r1] ?_ hT rfl R1 (hC.mono hle1) _ _ ?_ ?_ ?_ []
  ·rintro Y' (rfl | rfl)
   ·exact hPre _ (.inr ⟨r0, r1, rfl, hYok r0 (by simp), hYok r1 (by simp)⟩)
   ·exact hPre _ (.inl rfl)
  all_goals
   try simp only [go_sem, ↓reduceIte, Qa, Qb, Qc, Qd, Qe, Qf, reduceCtorEq, g6, g1, g2, g3]
end Go.Proofs.YtdgndfabdmecmaaGreat
namespace Go.Proofs.YtdgndfabdmecmaaGreat
open Go.Proofs.YtdgndfabdmecmaaGreat.Vc
set_option maxHeartbeats 4000000 in
theorem made13_rest (w : Rw) (hw : RwOK w) (ga oa : Option Addr) (gc oc : Nat) (c : Cal) (hv : c.valid) (hm2 : c.months.length = 2) (ma ra : Option Addr) (mc rc : Nat) (so : Int) (hso : -1080 ≤ so ∧ so ≤ 1080) (R : RO) (hg : U8s R (.slice ga w.gaps.length gc) w.gaps) (ho : U8s R (.slice oa w.offs.length oc) w.offs)
  (hC : CalIn R c (.slice ma 2 mc) (.slice ra c.rules.length rc)) (env : Nat → SV) (e1 : env 1 = .loc 0 0) (e2 : env 2 = .loc 1 0) (e3 : env 3 = .loc 3 0) (mid : Blk) (dl : List Blk) :
  CodeT ⟨Tryz.prog, 0⟩ r9 ⟨env, .box ((w.cells (.slice ga w.gaps.length gc) (.slice oa w.offs.length oc)).map .val) :: .box [.val (.int .i64 0), .val (.slice none 0 0), .val (.int .i64 0), .val (.slice none 0 0), .val (.int .i64 0), .val (.slice none 0 0), .val (.int .i64 0), .val (.slice none 0 0)] :: mid ::
   .box [.val (.int .i64 c.epoch), .val (.slice ma 2 mc), .val (.int .i64 c.leap), .val (.slice ra c.rules.length rc), .val (.int .i64 so), .val (.slice none 0 0), .val (.int .i64 0), .val (.slice none 0 0)] :: dl, R⟩
   (fun s => RetT rs9 s (fun vs s' => MadeZ s'.R (resVal vs)) .mk) (fun _ _ => False) (fun s => RetT rs9 s (fun vs s' => MadeZ s'.R (resVal vs)) .mk) .mk .mk .mk := by
 obtain ⟨st, gaps, offs, beh, y0, y1, y2, y3, y4, y5, y6, y7, cal, rules⟩ := w
 obtain ⟨hst, hbeh, hy, hcal, hgp, hof⟩ := hw
 dsimp only at hst hbeh hy hcal hgp hof hg ho
 obtain ⟨ga', gc', eg, _, hgf⟩ := hg.form
 simp only [Value.slice.injEq, true_and] at eg
 obtain ⟨rfl, rfl⟩ := eg
 obtain ⟨oa', oc', eo, _, hof2⟩ := ho.form
 simp only [Value.slice.injEq, true_and] at eo
 obtain ⟨rfl, rfl⟩ := eo
 simp only [Rw.cells, List.map_cons, List.map_nil]
 show CodeT _ (.seq (vL r9) (.seq (vL (vR r9)) r10)) _ _ _ _ .mk .mk .mk
 unfold r9
 simp only [go_sem, ↓reduceIte, Qa, Qb, Qc, Qd, Qe, Qf, reduceCtorEq, vL, vR, vc9, e1, e2, e3]
 refine vcLoopR (Nat × Int × List Tr) (fun x => [(5, .val (.int .i64 x.1)), (4, .val (.int .i64 x.2.1)), (1, .loc 0 0), (2, .loc 1 0), (3, .loc 2 0)])
  (fun x => [.box [.val (.int .u8 st), .val (.slice ga gaps.length gc), .val (.slice oa offs.length oc), .val (.int .u8 beh), .val (.int .u8 y0), .val (.int .u8 y1), .val (.int .u8 y2), .val (.int .u8 y3), .val (.int .u8 y4), .val (.int .u8 y5), .val (.int .u8 y6), .val (.int .u8 y7), .val (.int .u8 cal), .val (.bool rules)], .box [.val (.int .i64 0), .val (.slice none 0 0), .val (.int .i64 0), .val (.slice none 0 0), .val (.int .i64 0), .val (.slice none 0 0), .val (.int .i64 0), .val (.slice none 0 0)], .box [.val (.int .i64 c.epoch), .val (.slice ma 2 mc), .val (.int .i64 c.leap), .val (.slice ra c.rules.length rc), .val (.int .i64 so), gs 3 x.2.2.length, .val (.int .i64 0), .val (.slice none 0 0)], gb 95 2 (rowTr x.2.2)])
  (fun x _ => x.1 ≤ 3 ∧ x.2.2.length = x.1 ∧ (0 ≤ x.2.1 ∧ x.2.1 ≤ 7260 * x.1) ∧ TrG x.2.2 x.2.1) (fun x => 3 - x.1) (0, 0, []) [0, 1, 3, 4] ?_ ?_ ?_ ?_
 ·try simp only [go_sem, ↓reduceIte, Qa, Qb, Qc, Qd, Qe, Qf, reduceCtorEq, e1, e2, e3]
  exact ⟨rfl, fun h => absurd rfl h⟩
 ·try simp only [go_sem, ↓reduceIte, Qa, Qb, Qc, Qd, Qe, Qf, reduceCtorEq]
  decide
 ·exact ⟨by omega, rfl, by simp, ⟨fun x hx => by simp at hx, fun i hi => by simp at hi⟩⟩
 rintro ⟨i, at', T⟩ env2 R1 hle1 hE ⟨h3, hTl, hat, hTG⟩
 dsimp only at h3 hTl hat hTG
 (simp only [go_sem] at hE; obtain ⟨f5, f4, f1, f2, f3⟩ := hE; simp only [go_sem, ↓reduceIte, Qa, Qb, Qc, Qd, Qe, Qf, reduceCtorEq, f5, f4, f1, f2, f3]; dsimp only at *)
 refine ⟨fun hg1 => ⟨fun ho1 => ⟨fun h3' => ?_, fun h3' => ?_⟩, fun ho1 => ?_⟩, fun hg1 => ?_⟩
 ·obtain ⟨ad, had, hR⟩ := hgf i (by omega)
  have hgi := hgp gaps[i] (List.getElem_mem _)
  refine ⟨_, W.in64 (by omega), by omega, vat ad had ?_⟩
  try simp only [go_sem, ↓reduceIte, Qa, Qb, Qc, Qd, Qe, Qf, reduceCtorEq]
  refine vload (.int .u8 gaps[i]) (hle1 _ _ (by have h := hR 0 _ rfl; rw [Nat.mul_one] at h; exact h)) ?_
  try simp only [go_sem, ↓reduceIte, Qa, Qb, Qc, Qd, Qe, Qf, reduceCtorEq, f5, f4, f1, f2, f3]
  obtain ⟨ao, hao, hRo⟩ := hof2 i (by omega)
  have hoi := hof offs[i] (List.getElem_mem _)
  refine ⟨_, W.in64 (by omega), _, W.in64 (by omega), _, W.in64 (by omega), by omega, vat ao hao ?_⟩
  try simp only [go_sem, ↓reduceIte, Qa, Qb, Qc, Qd, Qe, Qf, reduceCtorEq]
  refine vload (.int .u8 offs[i]) (hle1 _ _ (by have h := hRo 0 _ rfl; rw [Nat.mul_one] at h; exact h)) ?_
  try simp only [go_sem, ↓reduceIte, Qa, Qb, Qc, Qd, Qe, Qf, reduceCtorEq, f5, f4, f1, f2, f3]
  refine vcall (rSome13 offs[i] hoi R1) ?_
  rintro R2 r hle2 ⟨w, rfl, hw⟩
  try simp only [go_sem, ↓reduceIte, Qa, Qb, Qc, Qd, Qe, Qf, reduceCtorEq, f5, f4, f1, f2, f3]
  refine vgrow (rowTr T) (fun h0 => by rfl) (fun h0 => by rw [h0, gb_nil]; rfl) (rowTr_len T) (by omega) (by omega) (by omega) ?_
  try simp only [go_sem, ↓reduceIte, Qa, Qb, Qc, Qd, Qe, Qf, reduceCtorEq, f5, f4, f1, f2, f3]
  refine ⟨_, W.in64 (by omega), (i + 1, at' + 2160 + 20 * gaps[i], T ++ [⟨at' + 2160 + 20 * gaps[i], w⟩]), [0, 1, 2, 5], by dsimp only; omega, ⟨⟨by dsimp only; push_cast; rfl, rfl, rfl, rfl, rfl⟩, rfl, rfl, ?_, fun _ => ?_⟩, by decide, by dsimp only; omega, ?_, ?_, ?_⟩
  ·simp only [List.length_append, List.length_cons, List.length_nil, Nat.zero_add, gs_succ]
   rfl
  ·simp only [rowTr_app]
   rfl
  ·dsimp only
   simp only [List.length_append, List.length_cons, List.length_nil]
   omega
  ·dsimp only
   omega
  ·have := hTG.snoc (d := 2160 + 20 * gaps[i]) (o := w) hat.1 (by omega) hw
   rw [← Int.add_assoc] at this
   exact this
 all_goals
  refine made13_b c hv hm2 ma ra mc rc so at' beh y0 y1 y2 y3 y4 y5 y6 y7 rules _ _ _ _ hso hbeh hy (by omega) T (by omega) hTG R1 (hC.mono hle1) _ ?_ ?_ ?_ ?_ []
  all_goals
   try simp only [go_sem, ↓reduceIte, Qa, Qb, Qc, Qd, Qe, Qf, reduceCtorEq, f5, f4, f1, f2, f3]
set_option maxHeartbeats 4000000 in
theorem rMade13 (w : Rw) (hw : RwOK w) (g o : Value) (R : RO) (hg : U8s R g w.gaps) (ho : U8s R o w.offs) : CallsR Tryz.prog 9 [.agg (w.cells g o).toArray] R MadeZ := by
 obtain ⟨ga, gc, rfl, hgc, hgf⟩ := hg.form
 obtain ⟨oa, oc, rfl, hoc, hof2⟩ := ho.form
 have hst := hw.st
 have hcal := hw.cal
 have key := made13_rest w hw ga oa gc oc
 refine callsT mix Tryz.func9 comp9 (by simp [Tryz.ntmps9]) ?_
 show CodeT _ (.seq (vL vc9) (.seq (vL (vR vc9)) (.seq (vL (vR (vR vc9))) r9))) _ _ _ _ .mk .mk .mk
 simp only [Rw.cells, List.map_cons, List.map_nil] at key ⊢
 simp only [go_sem, ↓reduceIte, Qa, Qb, Qc, Qd, Qe, Qf, reduceCtorEq, vL, vR, vc9]
 refine vcall (rSome13 w.st hst R) ?_
 rintro R1 r hle1 ⟨so, rfl, hso⟩
 try simp only [go_sem, ↓reduceIte, Qa, Qb, Qc, Qd, Qe, Qf, reduceCtorEq]
 intro b cap R2 hle2 hrow hcap hfr
 try simp only [go_sem, ↓reduceIte, Qa, Qb, Qc, Qd, Qe, Qf, reduceCtorEq]
 have hle02 : RO.le R R2 := RO.le_trans hle1 hle2
 refine ⟨by decide, fun hodd => ?_, fun heven => ?_⟩
 ·refine ⟨by decide, _, W_u8 (by rw [Int.tdiv_eq_ediv_of_nonneg hcal.1]; omega), by decide, ?_⟩
  have hq : (w.cal.tdiv 2).tmod 2 = 0 ∨ (w.cal.tdiv 2).tmod 2 = 1 := by
   rw [Int.tdiv_eq_ediv_of_nonneg hcal.1, Int.tmod_eq_emod_of_nonneg (by omega)]
   omega
  obtain ⟨q, hqe⟩ : ∃ q, q = (w.cal.tdiv 2).tmod 2 := ⟨_, rfl⟩
  rw [← hqe] at hq ⊢
  refine ⟨_, W.in64 (by omega), ?_⟩
  intro b1 c1 R3 hle3 hrow1 hcap1 hfr1 b2 c2 R4 hle4 hrow2 hcap2 hfr2
  have hle04 : RO.le R R4 := RO.le_trans hle02 (RO.le_trans hle3 hle4)
  refine key (cB13 q) (cB13_ok q hq) rfl (some ⟨b1, 0, none⟩) (some ⟨b2, 0, none⟩) c1 c2 so hso R4 (hg.mono hle04) (ho.mono hle04) ?_ _ ?_ ?_ ?_ _ _
  ·refine calIn_mk (cB13 q) b1 c1 _ (hrow1.mono hle4) hcap1 (fun m hm => ?_) ⟨?_, fun r hr => ?_, by simp [cB13]⟩ (by unfold I64 cB13; dsimp only; omega) (by unfold I64 cB13; dsimp only; omega) (by simp [cB13])
   ·simp only [cB13, List.mem_cons, List.not_mem_nil, or_false] at hm
    unfold I64
    omega
   ·exact (RowIn.enc (enc := rcells) (k := 3) (xs := [((2 : Int), q, true)]) (fun _ => rfl) (by omega) hrow2 hcap2 (by simp)).1
   ·simp only [cB13, List.mem_cons, List.not_mem_nil, or_false] at hr
    subst hr
    unfold I64
    dsimp only
    omega
  ·try simp only [go_sem, ↓reduceIte, Qa, Qb, Qc, Qd, Qe, Qf, reduceCtorEq]
  ·try simp only [go_sem, ↓reduceIte, Qa, Qb, Qc, Qd, Qe, Qf, reduceCtorEq]
  ·try simp only [go_sem, ↓reduceIte, Qa, Qb, Qc, Qd, Qe, Qf, reduceCtorEq]
 ·refine key cA13 cA13_ok rfl (some ⟨b, 0, none⟩) none cap 0 so hso R2 (hg.mono hle02) (ho.mono hle02) ?_ _ ?_ ?_ ?_ _ _
  ·refine calIn_mk cA13 b cap _ hrow hcap (fun m hm => ?_) ⟨?_, fun r hr => ?_, by simp [cA13]⟩ (by decide) (by decide) (by decide)
   ·simp only [cA13, List.mem_cons, List.not_mem_nil, or_false] at hm
    unfold I64
    omega
   ·exact (EncV.nil rcells _ _).1
   ·simp [cA13] at hr
  ·try simp only [go_sem, ↓reduceIte, Qa, Qb, Qc, Qd, Qe, Qf, reduceCtorEq]
  ·try simp only [go_sem, ↓reduceIte, Qa, Qb, Qc, Qd, Qe, Qf, reduceCtorEq]
  ·try simp only [go_sem, ↓reduceIte, Qa, Qb, Qc, Qd, Qe, Qf, reduceCtorEq]
end Go.Proofs.YtdgndfabdmecmaaGreat
namespace Go.Proofs.YtdgndfabdmecmaaGreat
open Go.Proofs.YtdgndfabdmecmaaGreat.Vc
structure TiOK (t : Ti) : Prop where
 rule : ∃ n, t.rule = [dayNode n] ∧ 1 ≤ n ∧ n ≤ 1099511627776
 minute : 0 ≤ t.minute ∧ t.minute ≤ 1439
 length : 1 ≤ t.length ∧ t.length ≤ 10080
 gap : 0 ≤ t.gap ∧ t.gap ≤ 2
 fold : 0 ≤ t.fold ∧ t.fold ≤ 2
 zone : 1 ≤ t.zone.size ∧ t.zone.size ≤ 32
theorem ruleN_day (n : Int) : ∃ k, ruleN n = [dayNode k] ∧ 1 ≤ k ∧ k ≤ 1099511627776 := ⟨1 + n % 3, rfl, by omega, by omega⟩
structure MdD (d : De) : Prop where
 rule : d.kind = 3 → ∃ n, d.rule = [dayNode n] ∧ 1 ≤ n ∧ n ≤ 1099511627776
 minute : d.kind = 2 → 0 ≤ d.minute ∧ d.minute ≤ 1439
 length : d.kind = 2 → 1 ≤ d.length ∧ d.length ≤ 10080
 zone : d.kind = 4 → 1 ≤ d.zone.size ∧ d.zone.size ≤ 32
theorem madeE_md (e : Ed) : MdD (madeE e) := by
 refine ⟨fun h => ?_, fun h => ?_, fun h => ?_, fun h => ?_⟩
 ·replace h : 1 + e.kind % 5 = 3 := h
  show ∃ n, (if 1 + e.kind % 5 = 3 then ruleN e.minute else []) = [dayNode n] ∧ _
  rw [if_pos h]; exact ruleN_day _
 ·replace h : 1 + e.kind % 5 = 2 := h
  show 0 ≤ (if 1 + e.kind % 5 = 2 then e.minute % 3 else 0) ∧ (if 1 + e.kind % 5 = 2 then e.minute % 3 else 0) ≤ 1439
  rw [if_pos h]; omega
 ·replace h : 1 + e.kind % 5 = 2 := h
  show 1 ≤ (if 1 + e.kind % 5 = 2 then 1 + e.length % 2 else 0) ∧ (if 1 + e.kind % 5 = 2 then 1 + e.length % 2 else 0) ≤ 10080
  rw [if_pos h]; omega
 ·replace h : 1 + e.kind % 5 = 4 := h
  show 1 ≤ (if 1 + e.kind % 5 = 4 then (if e.minute % 2 = 0 then zA else zB) else ⟨#[]⟩ : ByteArray).size ∧ (if 1 + e.kind % 5 = 4 then (if e.minute % 2 = 0 then zA else zB) else ⟨#[]⟩ : ByteArray).size ≤ 32
  rw [if_pos h]; split <;> decide
theorem madeL_md (es : List Ed) : ∀ d ∈ madeL es, MdD d := fun d hd => by obtain ⟨e, rfl⟩ := madeL_made es d hd; exact madeE_md e
theorem tiOn_ok (s : Se) (rl : List Nd) (o : List De) (hs : TiOK (s.ti rl)) (ho : ∀ d ∈ o, MdD d) (x : Int) : TiOK (tiOn s rl o x) := by
 have hk : ∀ {k : Int} {c : De}, kOn k x c = true → c.kind = k := fun h => by simp [kOn] at h; exact h.1
 refine ⟨?_, ?_, ?_, hs.gap, hs.fold, ?_⟩
 ·show ∃ n, (onE x (s.on rl) o).rule = [dayNode n] ∧ _
  rw [onE_eq]
  cases h : lastOf (kOn 3 x) o with
  | none => exact hs.rule
  | some c => exact (ho c (lastOf_some h).1).rule (hk (lastOf_some h).2)
 ·show 0 ≤ (onE x (s.on rl) o).minute ∧ (onE x (s.on rl) o).minute ≤ 1439
  rw [onE_eq]
  cases h : lastOf (kOn 2 x) o with
  | none => exact hs.minute
  | some c => exact (ho c (lastOf_some h).1).minute (hk (lastOf_some h).2)
 ·show 1 ≤ (onE x (s.on rl) o).length ∧ (onE x (s.on rl) o).length ≤ 10080
  rw [onE_eq]
  cases h : lastOf (kOn 2 x) o with
  | none => exact hs.length
  | some c => exact (ho c (lastOf_some h).1).length (hk (lastOf_some h).2)
 ·show 1 ≤ (onE x (s.on rl) o).zone.size ∧ (onE x (s.on rl) o).zone.size ≤ 32
  rw [onE_eq]
  cases h : lastOf (kOn 4 x) o with
  | none => exact hs.zone
  | some c => exact (ho c (lastOf_some h).1).zone (hk (lastOf_some h).2)
theorem partsGo_all {P : Ti → Prop} (e : Int) (f : Int → Ti) (hz : P Ti.zero) (hf : ∀ d, P (f d)) : ∀ (l : List Int) (out : List (Int × Ti)), (∀ p ∈ out, P p.2) → ∀ p ∈ partsGo e f l out, P p.2
 | [], out, h => by rw [partsGo_nil]; exact h
 | d :: r, out, h => by
  have hs : ∀ t, P t → ∀ p ∈ out ++ [(d, t)], P p.2 := fun t ht p hp => by
   rcases List.mem_append.1 hp with hp | hp
   ·exact h p hp
   ·simp only [List.mem_cons, List.not_mem_nil, or_false] at hp; subst hp; exact ht
  rw [partsGo]
  split
  ·exact hs _ hz
  ·split
   ·split
    ·exact partsGo_all e f hz hf r out h
    ·exact partsGo_all e f hz hf r _ (hs _ (hf d))
   ·exact partsGo_all e f hz hf r _ (hs _ (hf d))
structure PaOK (p : Pa) : Prop where
 ti : p.ti = Ti.zero ∨ TiOK p.ti
 mv : ∀ m ∈ p.moves, moveOK m = true
 asc : AscM p.moves
 len : p.moves.length ≤ 64
theorem movesD_len (ms : List Mv) (ds : List De) (e : Int) : (movesD ms ds e).length ≤ ds.length + ms.length := by
 unfold movesD
 rw [List.length_append, List.length_map]
 have h1 := List.length_filter_le isMove ds
 have h2 := List.length_filter_le (fun m : Mv => decide (m.day < e) && (!(ds.any (isMoveOn m.day)) && !(ds.any (isRuleTo m.day)))) ms
 omega
theorem merge_ok (s : Se) (rl : List Nd) (ms : List Mv) {o : List De} (ho : SortedD o) (hv : ∀ d ∈ o, validD d = true) (hmd : ∀ d ∈ o, MdD d) (hm : movesOK none ms = true) (hs : TiOK (s.ti rl)) (hl : o.length + ms.length ≤ 64) : ∀ p ∈ mergeP s rl ms o, PaOK p := by
 intro p hp
 obtain ⟨i, hi, rfl⟩ := List.mem_iff_getElem.1 hp
 obtain ⟨h', e⟩ := merge_get hi
 have hfo : ∀ d ∈ forceD o, d ∈ o := fun d hd => (mem_forceD.1 hd).1
 have hvf : ∀ d ∈ forceD o, validD d = true := fun d hd => hv d (hfo d hd)
 have hfl : (forceD o).length ≤ o.length := List.length_filter_le _ _
 have hml := movesD_len ms (forceD o) (endE (forceD o))
 have hsl : (sortM (movesD ms (forceD o) (endE (forceD o)))).length = (movesD ms (forceD o) (endE (forceD o))).length := (sortM_perm _).length_eq
 have hmem : ∀ m ∈ sortM (movesD ms (forceD o) (endE (forceD o))), moveOK m = true := fun m hm' => by
  rcases List.mem_append.1 ((sortM_perm _).mem_iff.1 hm') with h | h
  ·obtain ⟨d, hd, rfl⟩ := List.mem_map.1 h
   obtain ⟨hd1, hd2⟩ := List.mem_filter.1 hd
   exact (validD_move (hvf d hd1) (by simpa [isMove] using hd2)).1
  ·exact movesOK_all hm m (List.mem_filter.1 h).1
 rw [e]
 refine ⟨?_, fun m hm' => hmem m (List.mem_filter.1 hm').1, ?_, ?_⟩
 ·exact partsGo_all (P := fun t => t = Ti.zero ∨ TiOK t) _ _ (.inl rfl) (fun d => .inr (tiOn_ok s rl _ hs (fun d hd => hmd d (hfo d hd)) d)) _ _ (by simp) _ (List.getElem_mem h')
 ·have hx := (merge_facts s rl ms (x := 0) ho hv hm hs.length.1 (by omega)).2.2.2.1 i hi
  rw [e] at hx
  exact hx.2
 ·have := List.length_filter_le (fun m : Mv => decide (partAt ((partsD s rl (forceD o) (endE (forceD o))).map (·.1)) m.day = i)) (sortM (movesD ms (forceD o) (endE (forceD o))))
  dsimp only
  omega
theorem TiOK.se {t : Ti} {ms : List Mv} (h : TiOK t) (rv mv : Value) (h1 : ∀ m ∈ ms, moveOK m = true) (h2 : AscM ms) (h3 : ms.length ≤ 64) : ∃ n, t.rule = [dayNode n] ∧ SeOK ⟨rv, t.minute, t.length, t.zone, t.gap, t.fold, mv⟩ n ms := by
 obtain ⟨n, e, hn⟩ := h.rule
 exact ⟨n, e, hn, h1, h2, h3, h.minute, h.length, h.gap, h.fold, h.zone⟩
end Go.Proofs.YtdgndfabdmecmaaGreat
namespace Go.Proofs.YtdgndfabdmecmaaGreat
set_option linter.unusedSectionVars false
variable [Go.Proofs.YtdgndfabdmecmaaGreat.Vc.Drew]
open Go.Proofs.YtdgndfabdmecmaaGreat.Vc
def mv0 : Mv := ⟨0, false, 0, 0, 0⟩
theorem allD_of {l o s : List De} (h0 : l.length ≤ 4096) (h : distD [] l = some o) (hp : s.Perm o) (hs : SortedD s) : allD l = .ok s := by
 unfold allD
 rw [if_neg (by omega), h]
 show Except.ok (sortD o) = _
 rw [← sortD_eq (distD_keys h List.Pairwise.nil) hp (hs.imp fun h => lessD_asymm h)]
end Go.Proofs.YtdgndfabdmecmaaGreat
namespace Go.Proofs.YtdgndfabdmecmaaGreat
open Go.Proofs.YtdgndfabdmecmaaGreat.Vc
def tGone : De := ⟨5, 5, 1, 64, mv0, 0, 0, [], ⟨#[]⟩⟩
def tMove : De := ⟨1, 3, 2, 65, ⟨3, false, 4, 0, 30⟩, 0, 0, [], ⟨#[]⟩⟩
theorem tsan1 : allD [tGone, tMove] = .ok [tGone, tMove] := allD_of (o := [tGone, tMove]) (by decide) (by decide) (List.Perm.refl _) (by unfold SortedD; decide)
theorem tsan2 : forceD [tGone, tMove] = [tGone, tMove] ∧ endE [tGone, tMove] = 5 ∧ recsD [tGone, tMove] = [] := by decide
theorem tsan3 (s : Se) : mergeP s [dayNode 1] [] [tGone, tMove] = [⟨0, tiOn s [dayNode 1] [tGone, tMove] 0, [tMove.mv]⟩, ⟨5, Ti.zero, []⟩] := by
 have h1 : rising (0 :: [tGone, tMove].map (·.day)) = [0, 3, 5] := by decide
 have h2 : partsD s [dayNode 1] [tGone, tMove] 5 = [(0, tiOn s [dayNode 1] [tGone, tMove] 0), (5, Ti.zero)] := by
  unfold partsD
  rw [h1, partsGo_first (by decide), ← List.nil_append [(0, _)], partsGo_same (by decide), partsGo_end (by decide)]
  ·rfl
  ·simp [sameTi, tiOn, onE, stepOn, tGone, tMove]
 have h3 : movesD [] [tGone, tMove] 5 = [tMove.mv] := by decide
 have h4 : sortM [tMove.mv] = [tMove.mv] := by simp [sortM]
 unfold mergeP
 rw [tsan2.1, tsan2.2.1, h2, h3, h4]
 rfl
theorem tsan4 (s : Se) : tiOn s [dayNode 1] [tGone, tMove] 0 = s.ti [dayNode 1] := by simp [tiOn, onE, stepOn, tGone, tMove, Se.ti, Se.on]
def cFix : Cal := ⟨0, [7], -1, []⟩
def nFix : Zn := ⟨cFix, 0, [], 0, []⟩
theorem nFix_ok : ZnOK nFix [] := by
 refine ZnPre.ok0 ⟨by decide, by decide, by decide, by decide, fun x hx => ?_, fun i hi => ?_, .inl rfl⟩ rfl
 ·simp [nFix] at hx
 ·simp [nFix] at hi
theorem tsan5 : onC (ckOf nFix []) [tMove.mv] 60 60 0 0 3 = [⟨3, 5760, 5790⟩] := by
 have hl : ∀ t, lastC (ckOf nFix []) t = none := fun t => by simp [lastC, lastY, ckOf, nFix, lastTr]
 have ho : ∀ t, offC (ckOf nFix []) t = 0 := fun t => by unfold offC; rw [hl]; rfl
 have hi : ∀ l, instC (ckOf nFix []) l = ([l], 0, 0) := fun l => by
  unfold instC
  rw [show 2200 = 2199 + 1 from rfl, instF, hl]
  dsimp only
  rw [ho, if_pos (by omega)]
  simp [sortI]
 have hm : mvOnT [tMove.mv] 3 = some tMove.mv := by decide
 unfold onC
 rw [hm]
 dsimp only
 unfold instsC
 rw [hi]
 rfl
set_option maxHeartbeats 2000000 in
theorem tSanity (R : RO) : CallsR Tryz.prog 6 [] R fun _ v => v = .bool true := by
 refine callsT mix Tryz.func6 comp6 (by simp [Tryz.ntmps6]) ?_; simp only [go_sem, ↓reduceIte, Qa, Qb, Qc, Qd, Qe, Qf, reduceCtorEq, vc6, rs6]
 intro b cap R1 hle1 hrow hcap hfr
 have hRule : RuleV R1 (.slice (some ⟨b, 0, none⟩) 1 cap) [dayNode 1] := by
  refine ⟨[[.int .i64 1, .int .i64 0, .int .i64 0, .int .i64 0, .int .i64 1, .int .i64 0, .slice none 0 0, .string ⟨#[]⟩]], ?_, rfl, ?_, by decide⟩
  ·exact RowIn.slK (k := 8) (xs := [[.int .i64 1, .int .i64 0, .int .i64 0, .int .i64 0, .int .i64 1, .int .i64 0, .slice none 0 0, .string ⟨#[]⟩]]) hrow (by simp) (by omega) (by simpa using hcap)
  ·intro i c x hc hx
   cases i with
   | zero =>
    simp only [List.getElem?_cons_zero, Option.some.injEq, dayNode] at hc hx
    subst hc hx
    exact ⟨_, rfl, Ints.nil _, by simp⟩
   | succ i => simp at hc
 refine vfreeze ?_
 try simp only [go_sem, ↓reduceIte, Qa, Qb, Qc, Qd, Qe, Qf, reduceCtorEq]
 intro b2 cap2 R2 hle2 hrow2 hcap2 hfr2
 have hE : EdsV R2 (.slice (some ⟨b2, 0, none⟩) 2 cap2) [tGone, tMove] := EdsV.row (ps := [(tGone, none, 0, 0), (tMove, none, 0, 0)]) hrow2 hcap2 (fun p hp => by
  simp only [List.mem_cons, List.not_mem_nil, or_false] at hp
  rcases hp with rfl | rfl <;> exact RuleV.nil _) (by simp)
 refine vcall (eMerge ⟨.slice (some ⟨b, 0, none⟩) 1 cap, 60, 60, zA, 0, 0, .slice none 0 0⟩ [dayNode 1] [] [tGone, tMove] _ R2 (hRule.mono hle2) (EncV.nil _ _ _) hE (by simp)) ?_
 intro R3 r hle3 hr
 unfold MergeV at hr
 rw [tsan1] at hr
 dsimp only at hr
 rw [if_neg (by simp [movesOK])] at hr
 obtain ⟨p, q, rfl, hp, hq⟩ := hr
 rw [tsan3, tsan4] at hp
 rw [tsan2.2.2] at hq
 obtain ⟨qa, qcap, rfl, _⟩ := hq.form
 obtain ⟨cs, hpS, hpl, hpf, _⟩ := hp
 obtain ⟨pa, pcap, rfl, hpc, hpg⟩ := SlK.form hpS
 have hcl : cs.length = 2 := hpl
 obtain ⟨_, ad0, had0, hR0⟩ := hpg 0 (by omega)
 obtain ⟨_, ad1, had1, hR1⟩ := hpg 1 (by omega)
 obtain ⟨rv0, mv0', hc0, hrv0, hm0⟩ := hpf 0 _ _ (List.getElem?_eq_getElem (by omega)) rfl
 obtain ⟨rv1, mv1', hc1, _, hm1⟩ := hpf 1 _ _ (List.getElem?_eq_getElem (by omega)) rfl
 rw [hc0] at hR0
 rw [hc1] at hR1
 obtain ⟨ra0, rn0, rc0, rfl⟩ := hrv0.form
 obtain ⟨ma0, mcap0, rfl, _⟩ := hm0.form
 have e1 : ((1 : Nat) : Int) = 1 := rfl
 have e2 : ((2 : Nat) : Int) = 2 := rfl
 have d0 : (0 : Int) < 1 := by decide
 have d1 : (0 : Int) < 2 := by decide
 have d2 : (1 : Int) < 2 := by decide
 have d3 : (0 : Int) ≤ 0 := by decide
 have d4 : (0 : Int) ≤ 1 := by decide
 have t0 : (0 : Int).toNat = 0 := rfl
 have t1 : (1 : Int).toNat = 1 := rfl
 have hne : ¬ ((2 : Int) = 2 → False) := by simp
 simp only [go_sem, ↓reduceIte, Qa, Qb, Qc, Qd, Qe, Qf, reduceCtorEq, hcl, e1, e2, d0, d1, d2, d3, d4, t0, t1]
 refine vat ad0 had0 ?_
 try simp only [go_sem, ↓reduceIte, Qa, Qb, Qc, Qd, Qe, Qf, reduceCtorEq]
 refine vloadn (Se.cells ⟨.slice ra0 rn0 rc0, 60, 60, zA, 0, 0, .slice ma0 1 mcap0⟩) rfl (fun j u hj => ?_) ?_
 ·have := hR0 (1 + j) u (by rw [Nat.add_comm]; exact hj)
  rw [← add_add] at this
  exact this
 simp only [go_sem, ↓reduceIte, Qa, Qb, Qc, Qd, Qe, Qf, reduceCtorEq, Se.cells]
 intro b3 cap3 R4 hle4 hrow3 hcap3 hfr3
 obtain ⟨z, hz⟩ : ∃ z : Zv, z = ⟨0, some ⟨b3, 0, none⟩, 1, cap3, -1, none, 0, 0, 0, none, 0, 0, 0, none, 0, 0⟩ := ⟨_, rfl⟩
 have hzn : ZnIn R4 z nFix := by
  rw [hz]
  exact ⟨rfl, rfl, calIn_mk cFix b3 cap3 _ hrow3 hcap3 (by decide) ⟨(EncV.nil rcells _ _).1, by simp [cFix], by simp [cFix]⟩ (by decide) (by decide) (by decide), rfl, rfl, EncV.nil _ _ _, EncV.nil _ _ _⟩
 have hOn := sOn ⟨.slice ra0 rn0 rc0, 60, 60, zA, 0, 0, .slice ma0 1 mcap0⟩ 1 [tMove.mv] z (ckOf nFix []) nFix_ok.ck ⟨by decide, by decide, by simp [AscM], by decide, (by decide : (0 : Int) ≤ 60 ∧ (60 : Int) ≤ 1439), (by decide : (1 : Int) ≤ 60 ∧ (60 : Int) ≤ 10080), (by decide : (0 : Int) ≤ 0 ∧ (0 : Int) ≤ 2), (by decide : (0 : Int) ≤ 0 ∧ (0 : Int) ≤ 2), (by decide : 1 ≤ zA.size ∧ zA.size ≤ 32)⟩ 3 (by decide) R4 (hrv0.mono hle4) (hm0.mono hle4) (zOpen z nFix [] R4 hzn nFix_ok) (by rw [hz]; simp)
 rw [tsan5] at hOn
 simp only [Se.cells] at hOn
 rw [hz] at hOn
 simp only [Zv.cells] at hOn
 refine vcall hOn ?_
 rintro R5 r hle5 ⟨u, rfl, hu⟩
 obtain ⟨ua, ucap, rfl, huc, huf⟩ := hu.form
 obtain ⟨ad2, had2, hR2⟩ := huf 0 (by decide)
 have e0 : ((0 : Nat) : Int) = 0 := rfl
 have l35 : RO.le R3 R5 := RO.le_trans hle4 hle5
 simp only [go_sem, ↓reduceIte, Qa, Qb, Qc, Qd, Qe, Qf, reduceCtorEq, hcl, e0, e1, e2, d0, d1, d2, d3, d4, t0, t1]
 refine vat ad1 had1 ?_
 try simp only [go_sem, ↓reduceIte, Qa, Qb, Qc, Qd, Qe, Qf, reduceCtorEq]
 refine vload (.int .i64 5) (l35 _ _ (hR1 0 _ rfl)) ?_
 simp only [go_sem, ↓reduceIte, Qa, Qb, Qc, Qd, Qe, Qf, reduceCtorEq, hcl, e0, e1, e2, d0, d1, d2, d3, d4, t0, t1]
 refine vat ad2 had2 ?_
 try simp only [go_sem, ↓reduceIte, Qa, Qb, Qc, Qd, Qe, Qf, reduceCtorEq]
 refine vloadn [.int .i64 5760, .int .i64 5790] rfl (fun j u hj => ?_) ?_
 ·have := hR2 (1 + j) u (by rw [Nat.add_comm]; exact hj)
  rw [← add_add] at this
  exact this
 simp only [go_sem, ↓reduceIte, Qa, Qb, Qc, Qd, Qe, Qf, reduceCtorEq, hcl, e0, e1, e2, d0, d1, d2, d3, d4, t0, t1]
 trace_state
end Go.Proofs.YtdgndfabdmecmaaGreat
namespace Go.Proofs.YtdgndfabdmecmaaGreat
open Go.Proofs.YtdgndfabdmecmaaGreat.Vc
theorem find_asc {ms : List Mv} (ha : AscM ms) {m : Mv} (hm : m ∈ ms) : mvOnT ms m.day = some m := by
 unfold mvOnT
 cases hf : ms.find? (fun x => decide (x.day = m.day)) with
 | none =>
  have := List.find?_eq_none.1 hf m hm
  simp at this
 | some y =>
  have h1 := List.find?_some hf
  have h2 := List.mem_of_find?_eq_some hf
  have h3 : y.day = m.day := by simpa using h1
  exact congrArg some (pairwise_ne_mem (f := Mv.day) (ha.imp fun h => by omega) h2 hm h3)
theorem merge_on (s : Se) (rl : List Nd) {o : List De} (hs : SortedD o) (hv : ∀ d ∈ o, validD d = true) (hl : 1 ≤ s.length) {x : Int} {a : Nat} (ha : a < (mergeP s rl [] o).length) (h1 : ((mergeP s rl [] o)[a]).day ≤ x) (h2 : ∀ j, a < j → (hj : j < (mergeP s rl [] o).length) → x < ((mergeP s rl [] o)[j]).day) :
  mvOnT ((mergeP s rl [] o)[a]).moves x = (lastOf (isMoveOn x) (forceD o)).map (·.mv) := by
 have hvf : ∀ d ∈ forceD o, validD d = true := fun d hd => hv d (mem_forceD.1 hd).1
 have hasc : AscM ((mergeP s rl [] o)[a]).moves := ((merge_facts s rl [] (x := 0) hs hv rfl hl (by omega)).2.2.2.1 a ha).2
 have hinc := (partsD_days s rl (forceD o) (endE (forceD o)) (fun d hd => (valid_day (hvf d hd)).1)).1
 obtain ⟨h', e⟩ := merge_get ha
 have hday : ∀ i (h : i < (mergeP s rl [] o).length) (h' : i < ((partsD s rl (forceD o) (endE (forceD o))).map (·.1)).length), ((mergeP s rl [] o)[i]).day = ((partsD s rl (forceD o) (endE (forceD o))).map (·.1))[i] := fun i h h' => by
  obtain ⟨h1, e⟩ := merge_get h
  rw [e, List.getElem_map]
 have hlen := mergeP_len s rl [] o
 have ha' : a < ((partsD s rl (forceD o) (endE (forceD o))).map (·.1)).length := by simpa using h'
 have hpa : partAt ((partsD s rl (forceD o) (endE (forceD o))).map (·.1)) x = a := partAt_eq hinc ha' x (by rw [← hday a ha ha']; exact h1) (fun j hj hij => by
  have hj' : j < (mergeP s rl [] o).length := by rw [hlen]; simpa using hj
  rw [← hday j hj' hj]; exact h2 j hij hj')
 have hmem : ∀ m, m ∈ ((mergeP s rl [] o)[a]).moves ↔ (∃ d ∈ forceD o, d.kind = 1 ∧ d.mv = m) ∧ partAt ((partsD s rl (forceD o) (endE (forceD o))).map (·.1)) m.day = a := fun m => by
  rw [e]
  show m ∈ (sortM (movesD [] (forceD o) (endE (forceD o)))).filter _ ↔ _
  rw [List.mem_filter, (sortM_perm _).mem_iff]
  unfold movesD
  simp only [List.filter_nil, List.append_nil, List.mem_map, List.mem_filter, isMove, decide_eq_true_eq]
  constructor
  ·rintro ⟨⟨d, ⟨hd, hk⟩, rfl⟩, h⟩; exact ⟨⟨d, hd, hk, rfl⟩, h⟩
  ·rintro ⟨⟨d, hd, hk, rfl⟩, h⟩; exact ⟨⟨d, ⟨hd, hk⟩, rfl⟩, h⟩
 cases hlo : lastOf (isMoveOn x) (forceD o) with
 | some d =>
  obtain ⟨hd, hp⟩ := lastOf_some hlo
  simp only [isMoveOn, Bool.and_eq_true, decide_eq_true_eq] at hp
  have hmd := (validD_move (hvf d hd) hp.1).2
  have hm : d.mv ∈ ((mergeP s rl [] o)[a]).moves := (hmem _).2 ⟨⟨d, hd, hp.1, rfl⟩, by rw [hmd, hp.2]; exact hpa⟩
  have := find_asc hasc hm
  rw [hmd, hp.2] at this
  exact this
 | none =>
  unfold mvOnT
  show _ = none
  rw [List.find?_eq_none]
  intro m hm hmx
  have hmx' : m.day = x := by simpa using hmx
  obtain ⟨⟨d, hd, hk, rfl⟩, _⟩ := (hmem m).1 hm
  have hmd := (validD_move (hvf d hd) hk).2
  have := lastOf_none hlo d hd
  simp only [isMoveOn, hk, decide_true, Bool.true_and, decide_eq_false_iff_not] at this
  omega
def mvsOf (x : Int) (l : List De) : List Mv := ((lastOf (isMoveOn x) l).map (·.mv)).toList
theorem mvsOf_snoc (x : Int) (l : List De) (d : De) : mvsOf x (l ++ [d]) = if d.kind = 1 ∧ d.day = x then [d.mv] else mvsOf x l := by
 unfold mvsOf
 rw [lastOf_snoc]
 by_cases h : d.kind = 1 ∧ d.day = x
 ·rw [if_pos h, if_pos (by simp [isMoveOn, h.1, h.2])]; rfl
 ·rw [if_neg h, if_neg (by simp only [isMoveOn, Bool.and_eq_true, decide_eq_true_eq]; exact h)]
theorem mvsOf_on {x : Int} {l : List De} (hv : ∀ d ∈ l, validD d = true) : mvOnT (mvsOf x l) x = (lastOf (isMoveOn x) l).map (·.mv) ∧ (∀ m ∈ mvsOf x l, moveOK m = true) ∧ AscM (mvsOf x l) ∧ (mvsOf x l).length ≤ 1 := by
 unfold mvsOf
 cases hlo : lastOf (isMoveOn x) l with
 | none => exact ⟨rfl, by simp, List.Pairwise.nil, by simp⟩
 | some d =>
  obtain ⟨hd, hp⟩ := lastOf_some hlo
  simp only [isMoveOn, Bool.and_eq_true, decide_eq_true_eq] at hp
  obtain ⟨h1, h2⟩ := validD_move (hv d hd) hp.1
  refine ⟨?_, ?_, ?_, by simp⟩
  ·simp only [Option.map_some, Option.toList_some, mvOnT, List.find?_cons, h2, hp.2, decide_true]
  ·intro m hm
   simp only [Option.map_some, Option.toList_some, List.mem_cons, List.not_mem_nil, or_false] at hm
   subst hm; exact h1
  ·exact List.pairwise_singleton _ _
theorem onC_mv {k : Ck} {ms ms' : List Mv} {a b c d x : Int} (h : mvOnT ms x = mvOnT ms' x) : onC k ms a b c d x = onC k ms' a b c d x := by unfold onC; rw [h]
end Go.Proofs.YtdgndfabdmecmaaGreat
namespace Go.Proofs.YtdgndfabdmecmaaGreat
set_option linter.unusedSectionVars false
variable [Go.Proofs.YtdgndfabdmecmaaGreat.Vc.Drew]
open Go.Proofs.YtdgndfabdmecmaaGreat.Vc
theorem eMade (es : List Ed) (v : Value) (R : RO) (h : EdC R v es) (hl : es.length ≤ 1099511627776) : CallsR Tryz.prog 7 [v] R fun R' u => EdsV R' u (madeL es) := by
 obtain ⟨a, cap, rfl, hc, hf⟩ := h.form
 refine callsT mix Tryz.func7 comp7 (by simp [Tryz.ntmps7]) ?_; simp only [go_sem, ↓reduceIte, Qa, Qb, Qc, Qd, Qe, Qf, reduceCtorEq, vc7, rs7]
 refine vcLoopR (Nat × List Pl) (fun x => [(4, .val (.int .i64 x.1)), (0, .val (.slice a es.length cap)), (3, .sl 0 x.2.length)])
  (fun x => [.row 52 13 (rowP x.2)])
  (fun x R => x.1 ≤ es.length ∧ x.1 ≤ 12 ∧ x.2.map (·.1) = ((es.take x.1).map madeE).foldl madeStep [] ∧ x.2.length ≤ x.1 ∧ ∀ p ∈ x.2, PlOK R p) (fun x => es.length - x.1) (0, []) [] ?_ ?_ ?_ ?_
 ·(try simp only [go_sem, ↓reduceIte, Qa, Qb, Qc, Qd, Qe, Qf, reduceCtorEq]) <;> (repeat' (first | rfl | trivial | constructor | (intro h; exact absurd rfl h)))
 ·try simp only [go_sem, ↓reduceIte, Qa, Qb, Qc, Qd, Qe, Qf, reduceCtorEq]
 ·exact ⟨Nat.zero_le _, Nat.zero_le _, rfl, Nat.le_refl _, by simp⟩
 rintro ⟨i, ps⟩ env R1 hle1 hE ⟨hi, hi12, hps, hpl, hpo⟩
 (simp only [go_sem] at hE; obtain ⟨e4, e0, e3⟩ := hE; simp only [go_sem, ↓reduceIte, Qa, Qb, Qc, Qd, Qe, Qf, reduceCtorEq, e4, e0, e3]; dsimp only at *)
 have hend : ¬ (i < es.length ∧ i < 12) → ∀ R2 u, EdsV R2 u (ps.map (·.1)) → EdsV R2 u (madeL es) := fun hn R2 u hu => by
  have : es.take 12 = es.take i := by
   by_cases h12 : i = 12
   ·rw [h12]
   ·rw [List.take_of_length_le (by omega), List.take_of_length_le (by omega)]
  unfold madeL
  rw [this, ← hps]
  exact hu
 have hret : ¬ (i < es.length ∧ i < 12) → ∀ (b cap : Nat) (R' : RO), R1.le R' → RowIn R' b (rowP ps) → (rowP ps).length ≤ cap * 13 → Fresh R1 b → EdsV R' (.slice (some ⟨b, 0, none⟩) ps.length cap) (madeL es) := fun hn b cap' R2 hle2 hrow hcap _ =>
  hend hn R2 _ (EdsV.row hrow hcap (fun p hp => (hpo p hp).mono hle2) (by omega))
 refine ⟨fun hlt => ⟨fun hlt2 => ?_, fun hge => hret (by omega)⟩, fun hge => hret (by omega)⟩
 have hlt' : i < es.length := by omega
 obtain ⟨ad, had, hR⟩ := hf i hlt'
 have hM := eMadeEdit es[i] R1
 refine ⟨by omega, vat ad had ?_⟩
 try simp only [go_sem, ↓reduceIte, Qa, Qb, Qc, Qd, Qe, Qf, reduceCtorEq]
 refine vloadn (es[i]).cells rfl (fun j u hj => hle1 _ _ (hR j u hj)) ?_
 simp only [go_sem, ↓reduceIte, Qa, Qb, Qc, Qd, Qe, Qf, reduceCtorEq, Ed.cells, e4, e0, e3]
 refine vcall hM ?_
 rintro R2 u hle2 ⟨cs, rfl, hd⟩
 obtain ⟨ra, rn, rc, rfl, hrv⟩ := hd.form
 obtain ⟨d, hde⟩ : ∃ d, d = madeE es[i] := ⟨_, rfl⟩
 have hstep := madeStep_snoc ((es.take i).map madeE) d
 have htk : (es.take (i + 1)).map madeE = (es.take i).map madeE ++ [d] := by rw [List.take_succ_eq_append_getElem hlt', List.map_append, hde]; rfl
 rw [← hde] at hrv ⊢
 rw [← htk, ← hps] at hstep
 simp only [go_sem, ↓reduceIte, Qa, Qb, Qc, Qd, Qe, Qf, reduceCtorEq, Ed.cells, De.ed, e4, e0, e3]
 refine vcLoop Nat (fun k => [(7, .val (.int .i64 k)), (6, .val (.bool ((ps.take k).any fun q => keyEq q.1 d))), (4, .val (.int .i64 i)), (0, .val (.slice a es.length cap)), (3, .sl 0 ps.length), (5, .loc 1 0)])
  (fun _ => [.row 52 13 (rowP ps), .box [.val (.int .i64 d.kind), .val (.int .i64 d.day), .val (.int .i64 d.device), .val (.int .i64 d.seq), .val (.int .i64 d.mv.day), .val (.bool d.mv.drop), .val (.int .i64 d.mv.toDay), .val (.int .i64 d.mv.minute), .val (.int .i64 d.mv.length), .val (.int .i64 d.minute), .val (.int .i64 d.length), .val (.slice ra rn rc), .val (.string d.zone)]])
  (fun k _ => k ≤ ps.length) (fun k => ps.length - k) 0 ?_ ?_ ?_ ?_
 ·(try simp only [go_sem, ↓reduceIte, Qa, Qb, Qc, Qd, Qe, Qf, reduceCtorEq]) <;> (repeat' (first | rfl | trivial | constructor | (intro h; exact absurd rfl h)))
 ·try simp only [go_sem, ↓reduceIte, Qa, Qb, Qc, Qd, Qe, Qf, reduceCtorEq]
 ·exact Nat.zero_le _
 rintro k env R3 hle3 hE hk
 (simp only [go_sem] at hE; obtain ⟨e7, e6, e4', e0', e3', e5⟩ := hE; simp only [go_sem, ↓reduceIte, Qa, Qb, Qc, Qd, Qe, Qf, reduceCtorEq, e7, e6, e4', e0', e3', e5]; dsimp only at *)
 refine ⟨fun hlt3 => ?_, fun hge3 => ?_⟩
 ·have hk' : k < ps.length := by omega
  have hany : (ps.take (k + 1)).any (fun q => keyEq q.1 d) = ((ps.take k).any (fun q => keyEq q.1 d) || keyEq ps[k].1 d) := by
   rw [List.take_succ_eq_append_getElem hk', List.any_append]; simp
  obtain ⟨q, hq⟩ : ∃ q, q = ps[k] := ⟨_, rfl⟩
  rw [← hq] at hany
  have hcell : ∀ j, j < 13 → (rowP ps)[k * 13 + j]? = (q.ed.cells)[j]? := fun j hj => by rw [rowP_get ps k j hk' hj, hq]
  have hkq : keyEq q.1 d = (decide (q.1.seq = d.seq) && decide (q.1.device = d.device)) := by
   unfold keyEq
   rw [Bool.and_comm, ← Bool.decide_and]
  refine ⟨by omega, _, (hcell 3 (by omega)).trans rfl, ?_⟩
  simp only [go_sem, ↓reduceIte, Qa, Qb, Qc, Qd, Qe, Qf, reduceCtorEq, e7, e6, e4', e0', e3', e5]
  refine ⟨fun h1 => ⟨by omega, _, (hcell 2 (by omega)).trans rfl, ?_⟩, fun h1 => ?_⟩
  ·simp only [go_sem, ↓reduceIte, Qa, Qb, Qc, Qd, Qe, Qf, reduceCtorEq, e7, e6, e4', e0', e3', e5]
   refine ⟨fun h2 => ?_, fun h2 => ?_⟩
   ·refine ⟨_, W.in64 (by omega), k + 1, by omega, ?_, by omega⟩
    try simp only [go_sem, ↓reduceIte, Qa, Qb, Qc, Qd, Qe, Qf, reduceCtorEq]
    refine ⟨rfl, ?_⟩
    rw [hany, hkq, decide_eq_true (show q.1.seq = d.seq from h1), decide_eq_true (show q.1.device = d.device from h2)]; simp
   ·refine ⟨_, W.in64 (by omega), k + 1, by omega, ?_, by omega⟩
    try simp only [go_sem, ↓reduceIte, Qa, Qb, Qc, Qd, Qe, Qf, reduceCtorEq]
    refine ⟨rfl, ?_⟩
    rw [hany, hkq, decide_eq_false (show ¬ q.1.device = d.device from h2)]; simp
  ·refine ⟨_, W.in64 (by omega), k + 1, by omega, ?_, by omega⟩
   try simp only [go_sem, ↓reduceIte, Qa, Qb, Qc, Qd, Qe, Qf, reduceCtorEq]
   refine ⟨rfl, ?_⟩
   rw [hany, hkq, decide_eq_false (show ¬ q.1.seq = d.seq from h1)]; simp
 ·obtain rfl : k = ps.length := by omega
  have hmap : (ps.map (·.1)).any (fun o => keyEq o d) = ps.any fun q => keyEq q.1 d := by rw [List.any_map]; rfl
  rw [List.take_length]
  refine ⟨fun hno => ?_, fun hyes => ?_⟩
  ·refine vappO (rowP ps) rfl (by rw [rowP_len]) (by omega) ?_
   simp only [go_sem, ↓reduceIte, Qa, Qb, Qc, Qd, Qe, Qf, reduceCtorEq, e7, e6, e4', e0', e3', e5]
   refine ⟨_, W.in64 (by omega), (i + 1, ps ++ [(d, ra, rn, rc)]), [3], ?_⟩
   try simp only [go_sem, ↓reduceIte, Qa, Qb, Qc, Qd, Qe, Qf, reduceCtorEq]
   refine ⟨by omega, ⟨rfl, by rw [rowP_snoc]; rfl⟩, by decide, by omega, by omega, ?_, by omega, fun p hp => ?_⟩
   ·rw [hstep, madeStep, hmap, hno]; simp
   ·rcases List.mem_append.1 hp with hp | hp
    ·exact (hpo p hp).mono (RO.le_trans hle2 hle3)
    ·simp only [List.mem_cons, List.not_mem_nil, or_false] at hp; subst hp; exact hrv.mono hle3
  ·refine ⟨_, W.in64 (by omega), (i + 1, ps), [], ?_⟩
   try simp only [go_sem, ↓reduceIte, Qa, Qb, Qc, Qd, Qe, Qf, reduceCtorEq]
   refine ⟨by omega, rfl, by decide, by omega, by omega, ?_, by omega, fun p hp => (hpo p hp).mono (RO.le_trans hle2 hle3)⟩
   rw [hstep, madeStep, hmap, hyes]; simp
end Go.Proofs.YtdgndfabdmecmaaGreat
namespace Go.Proofs.YtdgndfabdmecmaaGreat
open Go.Proofs.YtdgndfabdmecmaaGreat.Vc
def lastBy (pp : List Pa) (x : Int) : Nat → Nat
 | 0 => 0
 | i + 1 => if h : i < pp.length then (if (pp[i]).day ≤ x then i else lastBy pp x i) else lastBy pp x i
theorem lastBy_eq {pp : List Pa} {x : Int} {a : Nat} (h1 : ∀ i (hi : i < pp.length), i ≤ a → (pp[i]).day ≤ x) (h2 : ∀ j, a < j → (hj : j < pp.length) → x < (pp[j]).day) : ∀ n, n ≤ pp.length → lastBy pp x n = min a (n - 1)
 | 0, _ => by simp [lastBy]
 | n + 1, hn => by
  rw [lastBy, dif_pos (by omega)]
  by_cases h : n ≤ a
  ·rw [if_pos (h1 n (by omega) h)]; omega
  ·rw [if_neg (by have := h2 n (by omega) (by omega); omega), lastBy_eq h1 h2 n (by omega)]; omega
theorem EdC.nil (R : RO) : EdC R (.slice none 0 0) [] := ⟨none, 0, rfl, Nat.le_refl _, fun i us h => by simp at h⟩
theorem movesOf_nil : movesOf [] = [] := by decide
set_option maxHeartbeats 8000000 in
theorem lMergedDays (R : RO) (es : List Ed) (v : Value) (h : EdC R v es) (hl : es.length ≤ 1099511627776) (s : Ed) (w : Rw) (hw : RwOK w) (g o : Value) (hg : U8s R g w.gaps) (ho : U8s R o w.offs) : CallsR Tryz.prog 4 [v, s.val, .agg (w.cells g o).toArray] R fun _ v => v = .bool true := by
 have hMd := fun R' hle => eMade es v R' (EdC.mono (R' := R') h hle) hl
 have hMs := fun R' => eMadeSeries s.minute [] (.slice none 0 0) R' (EdC.nil R') (by simp)
 have hMz := fun R' (hle : RO.le R R') => rMade13 w hw g o R' (hg.mono hle) (ho.mono hle)
 obtain ⟨a, cap, rfl, hc, _⟩ := h.form
 obtain ⟨ga, gc, rfl, _, _⟩ := hg.form
 obtain ⟨oa, oc, rfl, _, _⟩ := ho.form
 simp only [Rw.cells] at hMz ⊢
 simp only [Ed.val]
 refine callsT mix Tryz.func4 comp4 (by simp [Tryz.ntmps4]) ?_; simp only [go_sem, ↓reduceIte, Qa, Qb, Qc, Qd, Qe, Qf, reduceCtorEq, vc4, rs4]
 refine vcall (tSanity R) ?_
 rintro R1 v hle1 rfl
 try simp only [go_sem, ↓reduceIte, Qa, Qb, Qc, Qd, Qe, Qf, reduceCtorEq]
 obtain ⟨xs, hxs⟩ : ∃ xs, xs = madeL es := ⟨_, rfl⟩
 have hxl := madeL_len es
 have hcons := madeL_cons es
 have hmd := madeL_md es
 rw [← hxs] at hMd hxl hcons hmd
 refine vcall (hMd R1 hle1) ?_
 intro R2 u hle2 hx
 obtain ⟨xa, xcap, rfl, hxc, hxf⟩ := PlOK.of hx
 try simp only [go_sem, ↓reduceIte, Qa, Qb, Qc, Qd, Qe, Qf, reduceCtorEq]
 refine vcall (hMs R2) ?_
 rintro R3 u hle3 ⟨rv, mv, rfl, hrv, hmv⟩
 rw [movesOf_nil] at hmv
 obtain ⟨ra, rn, rc, rfl⟩ := hrv.form
 obtain ⟨ma, mcap, rfl, _⟩ := hmv.form
 simp only [go_sem, ↓reduceIte, Qa, Qb, Qc, Qd, Qe, Qf, reduceCtorEq, Se.cells]
 refine vcall (hMz R3 (RO.le_trans hle1 (RO.le_trans hle2 hle3))) ?_
 rintro R4 u hle4 ⟨z, nz, L, rfl, hz, hzo⟩
 have hO := zOpen z nz L R4 hz hzo
 have htn : z.tn ≤ 512 := by have h1 := hz.trans.slen; have h2 := hzo.tlen; omega
 obtain ⟨S, hS⟩ : ∃ S : Se, S = ⟨.slice ra rn rc, s.minute % 3, 1, zA, 0, 0, .slice ma 0 mcap⟩ := ⟨_, rfl⟩
 have hSc : S.cells = [.slice ra rn rc, .int .i64 (s.minute % 3), .int .i64 1, .string zA, .int .i64 0, .int .i64 0, .slice ma 0 mcap] := by rw [hS]; rfl
 have hSr : S.rule = .slice ra rn rc := by rw [hS]
 have hSm : S.moves = .slice ma 0 mcap := by rw [hS]
 have hSl : S.length = 1 := by rw [hS]
 have hMg := fun R' (hle : RO.le R4 R') => eMerge S (ruleN s.minute) [] xs _ R' (by rw [hSr]; exact hrv.mono (RO.le_trans hle4 hle)) (by rw [hSm]; exact hmv.mono (RO.le_trans hle4 hle)) (hx.mono (RO.le_trans hle3 (RO.le_trans hle4 hle))) (by simp; omega)
 have hAt := fun R' x (hle : RO.le R4 R') => eAt S (ruleN s.minute) xs _ x R' (by rw [hSr]; exact hrv.mono (RO.le_trans hle4 hle)) (by rw [hSm]; rfl) (hx.mono (RO.le_trans hle3 (RO.le_trans hle4 hle)))
 rw [hSc] at hMg hAt
 simp only [go_sem, ↓reduceIte, Qa, Qb, Qc, Qd, Qe, Qf, reduceCtorEq, Se.cells, Zv.cells]
 refine vcall (hMg R4 (RO.le_refl _)) ?_
 intro R5 r hle5 hr
 obtain ⟨o, ho1, ho2, ho3⟩ := allD_cons hcons (by omega)
 unfold MergeV at hr
 rw [ho1] at hr
 dsimp only at hr
 rw [if_neg (by simp [movesOK, hSl])] at hr
 obtain ⟨p1, q1, rfl, hp1, hq1⟩ := hr
 obtain ⟨P, hP⟩ : ∃ P, P = mergeP S (ruleN s.minute) [] o := ⟨_, rfl⟩
 rw [← hP] at hp1
 obtain ⟨p1a, p1c, rfl, hp1c, hp1f⟩ := hp1.form
 obtain ⟨q1a, q1c, rfl, _⟩ := hq1.form
 try simp only [go_sem, ↓reduceIte, Qa, Qb, Qc, Qd, Qe, Qf, reduceCtorEq]
 refine vcall (eRebase xs _ R5 (hx.mono (RO.le_trans hle3 (RO.le_trans hle4 hle5)))) ?_
 intro R6 r hle6 hr
 unfold RebV at hr
 rw [ho1] at hr
 obtain ⟨u, w', rfl, hu, hw'⟩ := hr
 obtain ⟨wa, wcap, rfl, _⟩ := hw'.form
 obtain ⟨F, hF⟩ : ∃ F, F = forceD o := ⟨_, rfl⟩
 rw [← hF] at hu
 have hFl : F.length ≤ 12 := by
  have h1 := allD_len ho1
  have h2 : (forceD o).length ≤ o.length := List.length_filter_le _ _
  rw [hF]; omega
 obtain ⟨fa, fcap, rfl, hfc, hff⟩ := PlOK.of hu
 have hvo : ∀ d ∈ o, validD d = true := fun d hd => hcons.1 d ((ho3 d).1 hd)
 have hvF : ∀ d ∈ F, validD d = true := fun d hd => hvo d (mem_forceD.1 (hF ▸ hd)).1
 have hti : TiOK (S.ti (ruleN s.minute)) := by
  rw [hS]
  exact ⟨ruleN_day s.minute, (by show 0 ≤ s.minute % 3 ∧ s.minute % 3 ≤ 1439; omega), (by show (1 : Int) ≤ 1 ∧ (1 : Int) ≤ 10080; omega), (by show (0 : Int) ≤ 0 ∧ (0 : Int) ≤ 2; omega), (by show (0 : Int) ≤ 0 ∧ (0 : Int) ≤ 2; omega), (by show 1 ≤ zA.size ∧ zA.size ≤ 32; decide)⟩
 have hPok := merge_ok S (ruleN s.minute) [] ho2 hvo (fun d hd => hmd d ((ho3 d).1 hd)) rfl hti (by have := allD_len ho1; simp; omega)
 have hPf := fun x (hx0 : 0 ≤ x ∧ x ≤ 1099511627776) => merge_facts S (ruleN s.minute) [] (x := x) ho2 hvo rfl (by omega) hx0
 have hPm := fun (x : Int) (a : Nat) => merge_on S (ruleN s.minute) (x := x) (a := a) ho2 hvo (by omega)
 have hPl : P.length ≤ 1000000000 := by obtain ⟨_, _, _, _, h⟩ := hp1; exact h
 have hP1 : 0 < P.length := by rw [hP]; exact (hPf 0 (by omega)).2.1.1
 rw [← hP] at hPok
 simp only [← hP] at hPf hPm
 try simp only [go_sem, ↓reduceIte, Qa, Qb, Qc, Qd, Qe, Qf, reduceCtorEq]
 refine ⟨fun h0 => absurd h0 (by omega), fun _ => ?_⟩
 refine vcLoopR Int (fun d => [(17, .val (.int .i64 d)), (11, .val (.slice p1a P.length p1c)), (8, .val (.slice xa xs.length xcap)), (14, .val (.slice fa F.length fcap)), (7, .val (.bool true)), (9, .loc 0 0), (10, .loc 1 0)])
  (fun _ => [.box [.val (.slice ra rn rc), .val (.int .i64 (s.minute % 3)), .val (.int .i64 1), .val (.string zA), .val (.int .i64 0), .val (.int .i64 0), .val (.slice ma 0 mcap)], .box [.val (.int .i64 z.ep), .val (.slice z.ma z.mn z.mc), .val (.int .i64 z.leap), .val (.slice z.ra z.rn z.rc), .val (.int .i64 z.start), .val (.slice z.ta z.tn z.tc), .val (.int .i64 z.hor), .val (.slice z.ya z.yn z.yc)]]) (fun d _ => 0 ≤ d) (fun d => (12 - d).toNat) 0 [2, 3] ?_ ?_ ?_ ?_
 ·(try simp only [go_sem, ↓reduceIte, Qa, Qb, Qc, Qd, Qe, Qf, reduceCtorEq]) <;> (repeat' (first | rfl | trivial | constructor | (intro h; exact absurd rfl h)))
 ·try simp only [go_sem, ↓reduceIte, Qa, Qb, Qc, Qd, Qe, Qf, reduceCtorEq]
  try decide
 ·exact Int.le_refl _
 rintro d env R7 hle7 hE hd
 (simp only [go_sem] at hE; obtain ⟨e17, e11, e8, e14, e7, e9, e10⟩ := hE; simp only [go_sem, ↓reduceIte, Qa, Qb, Qc, Qd, Qe, Qf, reduceCtorEq, e17, e11, e8, e14, e7, e9, e10]; dsimp only at *)
 refine fun hlt => ?_
 ·refine vcLoopR Nat (fun i => [(19, .val (.int .i64 i)), (18, .val (.int .i64 (lastBy P d i))), (17, .val (.int .i64 d)), (11, .val (.slice p1a P.length p1c)), (8, .val (.slice xa xs.length xcap)), (14, .val (.slice fa F.length fcap)), (7, .val (.bool true)), (9, .loc 0 0), (10, .loc 1 0)])
   (fun _ => [.box [.val (.slice ra rn rc), .val (.int .i64 (s.minute % 3)), .val (.int .i64 1), .val (.string zA), .val (.int .i64 0), .val (.int .i64 0), .val (.slice ma 0 mcap)], .box [.val (.int .i64 z.ep), .val (.slice z.ma z.mn z.mc), .val (.int .i64 z.leap), .val (.slice z.ra z.rn z.rc), .val (.int .i64 z.start), .val (.slice z.ta z.tn z.tc), .val (.int .i64 z.hor), .val (.slice z.ya z.yn z.yc)]]) (fun i _ => i ≤ P.length) (fun i => P.length - i) 0 [0, 1] ?_ ?_ ?_ ?_
  ·try simp only [go_sem, ↓reduceIte, Qa, Qb, Qc, Qd, Qe, Qf, reduceCtorEq, e17, e11, e8, e14, e7, e9, e10]
   exact ⟨rfl, rfl⟩
  ·try simp only [go_sem, ↓reduceIte, Qa, Qb, Qc, Qd, Qe, Qf, reduceCtorEq]
   try decide
  ·exact Nat.zero_le _
  rintro i env2 R8 hle8 hE hi
  (simp only [go_sem] at hE; obtain ⟨f19, f18, f17, f11, f8, f14, f7, f9, f10⟩ := hE; simp only [go_sem, ↓reduceIte, Qa, Qb, Qc, Qd, Qe, Qf, reduceCtorEq, f19, f18, f17, f11, f8, f14, f7, f9, f10]; dsimp only at *)
  refine ⟨fun hlt2 => ?_, fun hge2 => ?_⟩
  ·have hlt' : i < P.length := by omega
   obtain ⟨adi, ra', rn', rc', ma', mc', hadi, hRi, _, _⟩ := hp1f i hlt'
   refine ⟨by omega, vat adi hadi ?_⟩
   try simp only [go_sem, ↓reduceIte, Qa, Qb, Qc, Qd, Qe, Qf, reduceCtorEq]
   refine vload (.int .i64 (P[i]).day) (RO.le_trans hle6 (RO.le_trans hle7 hle8) _ _ (by have := hRi 0 _ rfl; rwa [Addr.add_zero'] at this)) ?_
   try simp only [go_sem, ↓reduceIte, Qa, Qb, Qc, Qd, Qe, Qf, reduceCtorEq, f19, f18, f17, f11, f8, f14, f7, f9, f10]
   have hw : lastBy P d (i + 1) = if (P[i]).day ≤ d then i else lastBy P d i := by rw [lastBy, dif_pos hlt']
   refine ⟨fun hle => ?_, fun hgt => ?_⟩
   ·rw [if_pos hle] at hw
    refine ⟨_, W.in64 (by omega), i + 1, [0, 1], by omega, ?_, by decide, by omega⟩
    rw [hw]
    exact ⟨⟨by norm_cast, rfl, rfl, rfl⟩, rfl, rfl⟩
   ·rw [if_neg hgt] at hw
    refine ⟨_, W.in64 (by omega), i + 1, [0, 1], by omega, ?_, by decide, by omega⟩
    rw [hw]
    exact ⟨⟨by norm_cast, rfl, rfl, rfl⟩, rfl, rfl⟩
  ·obtain rfl : i = P.length := by omega
   obtain ⟨F1, ⟨F20, F2⟩, F3, F4, A, FA0, FA1, FA2, FA3, FA4⟩ := hPf d (by omega)
   have hA1 : ∀ i (hi : i < P.length), i ≤ A → (P[i]).day ≤ d := fun i hi hiA => by
    rcases Nat.eq_or_lt_of_le hiA with rfl | hlt
    ·exact FA1
    ·have := F1 i A FA0 hlt; omega
   have hlb : lastBy P d P.length = A := by rw [lastBy_eq (a := A) hA1 FA2 P.length (Nat.le_refl _)]; omega
   rw [hlb] at f18
   have hle48 : RO.le R4 R8 := RO.le_trans hle5 (RO.le_trans hle6 (RO.le_trans hle7 hle8))
   obtain ⟨ad, ra', rn', rc', ma', mc', had, hRa, hra, hma⟩ := hp1f A FA0
   refine vcall (hAt R8 d hle48) ?_
   intro R9 r hle9 hr
   have hle59 : RO.le R5 R9 := RO.le_trans hle6 (RO.le_trans hle7 (RO.le_trans hle8 hle9))
   unfold AtV at hr
   rw [ho1] at hr
   dsimp only at hr
   rw [if_neg (by simp [betw]; omega), ← hF] at hr
   rw [← hF] at FA3 FA4
   by_cases he : endE F ≤ d
   ·rw [if_pos he] at hr FA3
    subst hr
    simp only [Se.zero, Se.cells]
    try simp only [go_sem, ↓reduceIte, Qa, Qb, Qc, Qd, Qe, Qf, reduceCtorEq, f19, f18, f17, f11, f8, f14, f7, f9, f10]
    refine ⟨by omega, vat ad had ?_⟩
    try simp only [go_sem, ↓reduceIte, Qa, Qb, Qc, Qd, Qe, Qf, reduceCtorEq]
    refine vload (.int .i64 (P[A]).ti.length) (hle59 _ _ (hRa 3 _ rfl)) ?_
    rw [FA3]
    try simp only [go_sem, ↓reduceIte, Qa, Qb, Qc, Qd, Qe, Qf, reduceCtorEq, Ti.zero, f19, f18, f17, f11, f8, f14, f7, f9, f10]
    exact ⟨_, W.in64 (by omega), d + 1, [0, 1], by omega, ⟨⟨rfl, rfl, rfl⟩, rfl, rfl⟩, by decide, by omega⟩
   ·rw [if_neg he] at hr FA3
    obtain ⟨rv', rfl, hrv'⟩ := hr
    obtain ⟨va, vn, vc, rfl⟩ := hrv'.form
    simp only [Se.cells]
    try simp only [go_sem, ↓reduceIte, Qa, Qb, Qc, Qd, Qe, Qf, reduceCtorEq, f19, f18, f17, f11, f8, f14, f7, f9, f10]
    refine vcLoopR Nat (fun i => [(23, .val (.int .i64 i)), (18, .val (.int .i64 A)), (17, .val (.int .i64 d)), (11, .val (.slice p1a P.length p1c)), (8, .val (.slice xa xs.length xcap)), (14, .val (.slice fa F.length fcap)), (7, .val (.bool true)), (9, .loc 0 0), (10, .loc 1 0), (20, .loc 2 0)])
     (fun i => [.box [.val (.slice ra rn rc), .val (.int .i64 (s.minute % 3)), .val (.int .i64 1), .val (.string zA), .val (.int .i64 0), .val (.int .i64 0), .val (.slice ma 0 mcap)], .box [.val (.int .i64 z.ep), .val (.slice z.ma z.mn z.mc), .val (.int .i64 z.leap), .val (.slice z.ra z.rn z.rc), .val (.int .i64 z.start), .val (.slice z.ta z.tn z.tc), .val (.int .i64 z.hor), .val (.slice z.ya z.yn z.yc)],
      .box [.val (.slice va vn vc), .val (.int .i64 (tiOn S (ruleN s.minute) F d).minute), .val (.int .i64 (tiOn S (ruleN s.minute) F d).length), .val (.string (tiOn S (ruleN s.minute) F d).zone), .val (.int .i64 S.gap), .val (.int .i64 S.fold), gs 3 (mvsOf d (F.take i)).length], gb 50 5 ((mvsOf d (F.take i)).flatMap Mv.cells)]) (fun i _ => i ≤ F.length) (fun i => F.length - i) 0 [0, 1, 2, 3] ?_ ?_ ?_ ?_
    ·try simp only [go_sem, ↓reduceIte, Qa, Qb, Qc, Qd, Qe, Qf, reduceCtorEq, f19, f18, f17, f11, f8, f14, f7, f9, f10]
     exact ⟨rfl, ⟨rfl, rfl, rfl, rfl⟩, fun h => h rfl⟩
    ·try simp only [go_sem, ↓reduceIte, Qa, Qb, Qc, Qd, Qe, Qf, reduceCtorEq]
     rfl
    ·exact Nat.zero_le _
    rintro i env3 R10 hle10 hE hi
    (simp only [go_sem] at hE; obtain ⟨g23, g18, g17, g11, g8, g14, g7, g9, g10, g20⟩ := hE; simp only [go_sem, ↓reduceIte, Qa, Qb, Qc, Qd, Qe, Qf, reduceCtorEq, g23, g18, g17, g11, g8, g14, g7, g9, g10, g20]; dsimp only at *)
    have hle610 : RO.le R6 R10 := RO.le_trans hle7 (RO.le_trans hle8 (RO.le_trans hle9 hle10))
    refine ⟨fun hlt3 => ?_, fun hge3 => ?_⟩
    ·have hlt' : i < F.length := by omega
     obtain ⟨adf, pf, hadf, hpf1, hRf, _⟩ := hff i hlt'
     have hsn := mvsOf_snoc d (F.take i) F[i]
     rw [← List.take_succ_eq_append_getElem hlt', ← hpf1] at hsn
     refine ⟨hlt3, vat adf hadf ?_⟩
     try simp only [go_sem, ↓reduceIte, Qa, Qb, Qc, Qd, Qe, Qf, reduceCtorEq]
     refine vload (.int .i64 pf.1.kind) (hle610 _ _ (by have := hRf 0 _ rfl; rwa [Addr.add_zero'] at this)) ?_
     try simp only [go_sem, ↓reduceIte, Qa, Qb, Qc, Qd, Qe, Qf, reduceCtorEq, g23, g18, g17, g11, g8, g14, g7, g9, g10, g20]
     refine ⟨fun hk1 => ⟨hlt3, vat adf hadf ?_⟩, fun hk1 => ?_⟩
     ·try simp only [go_sem, ↓reduceIte, Qa, Qb, Qc, Qd, Qe, Qf, reduceCtorEq]
      refine vload (.int .i64 pf.1.day) (hle610 _ _ (hRf 1 _ rfl)) ?_
      try simp only [go_sem, ↓reduceIte, Qa, Qb, Qc, Qd, Qe, Qf, reduceCtorEq, g23, g18, g17, g11, g8, g14, g7, g9, g10, g20]
      refine ⟨fun hdd => ⟨hlt3, vat adf hadf ?_⟩, fun hdd => ?_⟩
      ·rw [if_pos ⟨hk1, hdd⟩] at hsn
       try simp only [go_sem, ↓reduceIte, Qa, Qb, Qc, Qd, Qe, Qf, reduceCtorEq]
       refine vloadn pf.1.mv.cells rfl (fun j u hj => hle610 _ _ ?_) ?_
       ·have := hRf (4 + j) u (by rw [Nat.add_comm]; match j, hj with | 0, hj => exact hj | 1, hj => exact hj | 2, hj => exact hj | 3, hj => exact hj | 4, hj => exact hj)
        rw [← add_add] at this
        exact this
       simp only [go_sem, ↓reduceIte, Qa, Qb, Qc, Qd, Qe, Qf, reduceCtorEq, Mv.cells, g23, g18, g17, g11, g8, g14, g7, g9, g10, g20]
       refine ⟨_, W.in64 (by omega), i + 1, [0, 1, 2, 4], by omega, ?_, by decide, by omega⟩
       rw [hsn]
       exact ⟨⟨by norm_cast, rfl, rfl, rfl⟩, rfl, rfl, rfl, fun _ => rfl⟩
      ·rw [if_neg (fun h => hdd h.2)] at hsn
       refine ⟨_, W.in64 (by omega), i + 1, [0, 1, 2, 3], by omega, ?_, by decide, by omega⟩
       rw [hsn]
       exact ⟨⟨by norm_cast, rfl, rfl, rfl⟩, rfl, rfl, rfl, fun hne => congrArg some (gb_ne hne)⟩
     ·rw [if_neg (fun h => hk1 h.1)] at hsn
      refine ⟨_, W.in64 (by omega), i + 1, [0, 1, 2, 3], by omega, ?_, by decide, by omega⟩
      rw [hsn]
      exact ⟨⟨by norm_cast, rfl, rfl, rfl⟩, rfl, rfl, rfl, fun hne => congrArg some (gb_ne hne)⟩
    ·obtain rfl : i = F.length := by omega
     obtain ⟨mvs, hmvs⟩ : ∃ mvs, mvs = mvsOf d (F.take F.length) := ⟨_, rfl⟩
     have hmo := mvsOf_on (x := d) hvF
     rw [List.take_length] at hmvs
     rw [← hmvs] at hmo
     rw [List.take_length, ← hmvs]
     refine ⟨by omega, vat ad had ?_⟩
     try simp only [go_sem, ↓reduceIte, Qa, Qb, Qc, Qd, Qe, Qf, reduceCtorEq]
     refine vloadn (Se.cells ⟨.slice ra' rn' rc', (P[A]).ti.minute, (P[A]).ti.length, (P[A]).ti.zone, (P[A]).ti.gap, (P[A]).ti.fold, .slice ma' (P[A]).moves.length mc'⟩) rfl (fun j u hj => ?_) ?_
     ·have := RO.le_trans hle59 hle10 _ _ (hRa (1 + j) u (by rw [Nat.add_comm]; exact hj))
      rw [← add_add] at this
      exact this
     simp only [go_sem, ↓reduceIte, Qa, Qb, Qc, Qd, Qe, Qf, reduceCtorEq, Se.cells, g23, g18, g17, g11, g8, g14, g7, g9, g10, g20]
     have hle410 : RO.le R4 R10 := RO.le_trans hle48 (RO.le_trans hle9 hle10)
     have hle510 : RO.le R5 R10 := RO.le_trans hle59 hle10
     have hpok := hPok P[A] (List.getElem_mem _)
     have htiS : TiOK (tiOn S (ruleN s.minute) F d) := tiOn_ok S (ruleN s.minute) F hti (fun e he' => hmd e ((ho3 e).1 (mem_forceD.1 (hF ▸ he')).1)) d
     obtain ⟨nd, hnd, hse1⟩ := htiS.se (.slice ra' rn' rc') (.slice ma' (P[A]).moves.length mc') hpok.mv hpok.asc hpok.len
     obtain ⟨nd', hnd', hse2⟩ := htiS.se (.slice va vn vc) (.slice none 0 0) hmo.2.1 hmo.2.2.1 (by omega)
     have hOn1 := fun R' (hle : RO.le R10 R') => sOn ⟨.slice ra' rn' rc', (P[A]).ti.minute, (P[A]).ti.length, (P[A]).ti.zone, (P[A]).ti.gap, (P[A]).ti.fold, .slice ma' (P[A]).moves.length mc'⟩ nd (P[A]).moves z (ckOf nz L) hzo.ck (by rw [FA3]; exact hse1) d (by omega) R' (by rw [← hnd, ← FA3]; exact hra.mono (RO.le_trans hle510 hle)) (hma.mono (RO.le_trans hle510 hle)) (hO.mono (RO.le_trans hle410 hle)) htn
     simp only [Se.cells, Zv.cells] at hOn1
     refine vcall (hOn1 R10 (RO.le_refl _)) ?_
     rintro R11 r hle11 ⟨u1, rfl, hu1⟩
     obtain ⟨u1a, u1c, rfl, _⟩ := hu1.form
     try simp only [go_sem, ↓reduceIte, Qa, Qb, Qc, Qd, Qe, Qf, reduceCtorEq, g23, g18, g17, g11, g8, g14, g7, g9, g10, g20]
     have hOn2 := fun R' (mu : Value) (hle : RO.le R10 R') (hmu : EncV Mv.cells 5 R' mu mvs) => sOn ⟨.slice va vn vc, (tiOn S (ruleN s.minute) F d).minute, (tiOn S (ruleN s.minute) F d).length, (tiOn S (ruleN s.minute) F d).zone, S.gap, S.fold, mu⟩ nd' mvs z (ckOf nz L) hzo.ck ⟨hse2.n, hse2.mv, hse2.asc, hse2.len, hse2.minute, hse2.length, hse2.gap, hse2.fold, hse2.zone⟩ d (by omega) R' (by rw [← hnd']; exact hrv'.mono (RO.le_trans hle10 hle)) hmu (hO.mono (RO.le_trans hle410 hle)) htn
     simp only [Se.cells, Zv.cells] at hOn2
     have hon : onC (ckOf nz L) (P[A]).moves (P[A]).ti.minute (P[A]).ti.length (P[A]).ti.gap (P[A]).ti.fold d = onC (ckOf nz L) mvs (tiOn S (ruleN s.minute) F d).minute (tiOn S (ruleN s.minute) F d).length S.gap S.fold d := by
      rw [FA3]
      refine onC_mv ?_
      rw [hPm d A FA0 FA1 FA2, ← hF, hmo.1]
     match mvs, hmo, hOn2, hon with
     | [], hmo, hOn2, hon =>
      try simp only [go_sem, ↓reduceIte, Qa, Qb, Qc, Qd, Qe, Qf, reduceCtorEq, List.length_nil, gs_zero, List.flatMap_nil, gb_nil, g23, g18, g17, g11, g8, g14, g7, g9, g10, g20]
      refine vcall (hOn2 R11 _ hle11 (EncV.nil _ _ _)) ?_
      rintro R12 r hle12 ⟨u2, rfl, hu2⟩
      obtain ⟨u2a, u2c, rfl, _⟩ := hu2.form
      try simp only [go_sem, ↓reduceIte, Qa, Qb, Qc, Qd, Qe, Qf, reduceCtorEq, g23, g18, g17, g11, g8, g14, g7, g9, g10, g20]
      refine vcall (tSame16 _ _ _ _ R12 (hu1.mono hle12) hu2) ?_
      rintro R13 r hle13 rfl
      rw [decide_eq_true hon]
      try simp only [go_sem, ↓reduceIte, Qa, Qb, Qc, Qd, Qe, Qf, reduceCtorEq, g23, g18, g17, g11, g8, g14, g7, g9, g10, g20]
      exact ⟨_, W.in64 (by omega), d + 1, [0, 1], by omega, ⟨⟨rfl, rfl, rfl⟩, rfl, rfl⟩, by decide, by omega⟩
     | [m], hmo, hOn2, hon =>
      try simp only [go_sem, ↓reduceIte, Qa, Qb, Qc, Qd, Qe, Qf, reduceCtorEq, List.length_cons, List.length_nil, gs_succ, List.flatMap_cons, List.flatMap_nil, List.append_nil, Mv.cells]
      intro b2 cap2 R12 hle12 hrow2 hcap2 hfr2
      have hmu : EncV Mv.cells 5 R12 (.slice (some ⟨b2, 0, none⟩) 1 cap2) [m] := RowIn.enc (xs := [m]) (fun _ => rfl) (by omega) hrow2 hcap2 (by simp)
      have e20 : unsl 3 b2 cap2 (env3 20) = .loc 2 0 := by rw [g20]; rfl
      have e10 : unsl 3 b2 cap2 (env3 10) = .loc 1 0 := by rw [g10]; rfl
      have e17 : unsl 3 b2 cap2 (env3 17) = .val (.int .i64 d) := by rw [g17]; rfl
      have e11 : unsl 3 b2 cap2 (env3 11) = .val (.slice p1a P.length p1c) := by rw [g11]; rfl
      have e8 : unsl 3 b2 cap2 (env3 8) = .val (.slice xa xs.length xcap) := by rw [g8]; rfl
      have e14 : unsl 3 b2 cap2 (env3 14) = .val (.slice fa F.length fcap) := by rw [g14]; rfl
      have e7 : unsl 3 b2 cap2 (env3 7) = .val (.bool true) := by rw [g7]; rfl
      have e9 : unsl 3 b2 cap2 (env3 9) = .loc 0 0 := by rw [g9]; rfl
      try simp only [go_sem, ↓reduceIte, Qa, Qb, Qc, Qd, Qe, Qf, reduceCtorEq, e20, e10, e17]
      refine vcall (hOn2 R12 _ (RO.le_trans hle11 hle12) hmu) ?_
      rintro R13 r hle13 ⟨u2, rfl, hu2⟩
      obtain ⟨u2a, u2c, rfl, _⟩ := hu2.form
      try simp only [go_sem, ↓reduceIte, Qa, Qb, Qc, Qd, Qe, Qf, reduceCtorEq, e20, e10, e17, e11, e8, e14, e7, e9]
      refine vcall (tSame16 _ _ _ _ R13 (hu1.mono (RO.le_trans hle12 hle13)) hu2) ?_
      rintro R14 r hle14 rfl
      rw [decide_eq_true hon]
      try simp only [go_sem, ↓reduceIte, Qa, Qb, Qc, Qd, Qe, Qf, reduceCtorEq, e20, e10, e17, e11, e8, e14, e7, e9]
      exact ⟨_, W.in64 (by omega), d + 1, [0, 1], by omega, ⟨⟨rfl, rfl, rfl⟩, rfl, rfl⟩, by decide, by omega⟩
     | _ :: _ :: _, hmo, _, _ => exact absurd hmo.2.2.2 (by simp)
end Go.Proofs.YtdgndfabdmecmaaGreat
namespace Go.Proofs.YtdgndfabdmecmaaGreat
open Go.ChangeShapes Go.WideShapes Go.ChangeAt Go.RowKit Go.Joins Go.Proofs.YtdgndfabdmecmaaGreat.Vc
theorem Tryz.own : ownKnob Tryz.prog.godebug = none := by kernel_rfl
theorem Tryz.laidOut : laidOutB Tryz.prog = true := by kernel_rfl
section
variable {H : Type} {enc : TypeId × Value → H} {P : Program}
theorem trodAll_stay (hl : laidOutB P = true) {W W' : World} {sp : Nat → Bool} (hb : Ext W W') : ∀ {ts : List TypeId} {vs : List Value} {ds : List (DataW H)} {ps : List MemPlace},
  (∀ t ∈ ts, P.readableRec t = true ∧ t < P.types.size) → DataW.TrodAll enc P W 0 (fun _ => true) true ts vs ds ps → (∀ x ∈ ps, x.block < W.heap.size) → (∀ x ∈ ps, sp x.block = true) → DataW.TrodAll enc P W' 0 sp true ts vs ds ps
 | [], [], [], ps, _, h, _, _ => h
 | t :: ts, v :: vs, d :: ds, ps, ht, ⟨p, q, h1, h2, he⟩, hlt, hsp => by
  subst he
  refine ⟨p, q, WideElems.Trod_stays hl (ht t (by simp)).1 (ht t (by simp)).2 h1 (fun x hx => hb.below.same (hlt x (by simp [hx]))) (fun x hx => hsp x (by simp [hx])), ?_, rfl⟩
  exact trodAll_stay hl hb (fun t h => ht t (by simp [h])) h2 (fun x hx => hlt x (by simp [hx])) (fun x hx => hsp x (by simp [hx]))
theorem trodAll_len {w : World} {base : Nat} {sp : Nat → Bool} {held : Bool} : ∀ {ts : List TypeId} {vs : List Value} {ds : List (DataW H)} {ps : List MemPlace}, DataW.TrodAll enc P w base sp held ts vs ds ps → ds.length = ts.length
 | [], [], [], ps, _ => rfl
 | t :: ts, v :: vs, d :: ds, ps, ⟨p, q, _, h2, _⟩ => by simp [trodAll_len h2]
theorem law_post {f : Func} {s : ChangeSpec} {W W' : World} {args : Array Value} {ds : List (DataW H)} {ps : List MemPlace} {tb : TypeId} (hl : laidOutB P = true) (hvars : s.vars = []) (hfres : f.resultTypes = #[tb]) (hb : P.underlying tb = some .bool)
  (hread : ∀ t ∈ f.params.toList, P.readableRec t = true ∧ t < P.types.size) (hs : s.fn H ds = { results := [.lit (.bool true)], args := ds })
  (hW : DataW.Whole enc P f.params.toList s.vars false W args.toList ds [] ps) (hA : DataW.TrodAll enc P W 0 (fun _ => true) true f.params.toList args.toList ds ps) (hext : Ext W W') : s.post enc P f false true false false W args (.bool true) W' := by
 have hlt : ∀ x ∈ ps, x.block < W.heap.size := fun x hx => hW.lt x hx
 have hds : s.fn H (ds ++ []) = { results := [.lit (.bool true)], args := ds } := by rw [List.append_nil]; exact hs
 have hbool : ∀ (b : Nat) (sp : Nat → Bool) (hd : Bool), DataW.TrodAll enc P W' b sp hd f.resultTypes.toList ((Value.bool true).resultList f.resultTypes.size) [.lit (.bool true)] [] := fun b sp hd => by
  rw [hfres]
  exact trodAll_mk1 ⟨1, by simp [DataW.trod, Value.cells, hb]⟩
 have hargs := fun (sp : Nat → Bool) (hsp : ∀ x ∈ ps, sp x.block = true) => trodAll_stay (enc := enc) hl hext hread hA hlt hsp
 have hnoV : ∀ sp : Nat → Bool, DataW.TrodVars enc P W' sp s.vars ([] : List (DataW H)) [] := fun sp => by rw [hvars]; rfl
 have hfrozen : W'.noneFrozen ps := by
  obtain ⟨_, _, _, _, _, hz, _⟩ := hW
  intro b off hp
  rw [hext.below.frozen (hlt _ hp)]
  exact hz b off hp
 refine ⟨ds, [], ps, [], ps, [], hW, by rw [hds]; exact hbool _ _ _, by rw [hds]; exact hargs (fun b => decide (b < W.heap.size)) (fun x hx => by simpa using hlt x hx), by rw [hds]; exact hnoV _, World.keptBut_mono (fun x hx => ⟨hx, .inr (by simpa using hx)⟩) (hext.below.frame (· ∈ ps)), fun _ => ⟨fun j t r hj hr => ?_, [.lit (.bool true)] ++ ds, [], ps, ⟨ps, [], ?_, hnoV _, by simp, hfrozen, fun e => by cases e⟩, fun p hp _ => by simpa using hp⟩⟩
 ·rw [hfres] at hj hr
  match j with
  | 0 =>
   simp only [List.getElem?_toArray, List.getElem?_cons_zero, Option.some.injEq] at hj
   subst hj
   have : r = .bool true := by simpa [Value.resultList] using hr.symm
   subst this
   simp [Value.okWide, hb, Cell.okWide, Cell.ok]
  | j + 1 => simp at hj
 ·have := trodAll_append (hargs (fun _ => true) (fun _ _ => rfl)) (hbool 0 (fun _ => true) true)
  simpa using this
end
def factsOf (W : World) : RO := fun a v => W.cell? a = some v
set_option maxRecDepth 100000 in
/-- A law's row, from a contract of its function. -/
theorem lawLifted {os : Os} (started : os.Started) {H : Type} {enc : TypeId × Value → H} {n : Nat} {fn : Func} {s : ChangeSpec} {tb : TypeId} (noInit : Tryz.checked.prog.inits.idxOf? n = none) (hfn : Tryz.checked.prog.funcs[n]? = some fn)
  (hvars : s.vars = []) (hres : fn.resultTypes = #[tb]) (hbool : Tryz.checked.prog.underlying tb = some .bool) (hread : ∀ t ∈ fn.params.toList, Tryz.prog.readableRec t = true ∧ t < Tryz.prog.types.size)
  (hs : ∀ ds : List (DataW H), ds.length = fn.params.toList.length → s.fn H ds = { results := [.lit (.bool true)], args := ds })
  (witness : ∃ (w : World) (tape : Tape) (i : Input), w.os = os ∧ (w.forCall tape i).Shaped Tryz.checked.prog ∧ i.vars = [] ∧ Input.okWide Tryz.checked.prog (w.forCall tape i) .any w.heap.size n i ∧
   s.pre6 enc Tryz.checked.prog fn [] false (w.forCall tape i).memory i.args ∧ Assume.holds {} Tryz.checked.prog (lone (Frame.enter Tryz.checked.prog n i.args .normal) [] (w.forCall tape i)))
  (hlaw : ∀ (W : World) (base : Nat) (args : Array Value) (ds : List (DataW H)) (ps : List MemPlace), (∀ (j : Nat) t v, fn.params[j]? = some t → args[j]? = some v → Value.okWide Tryz.prog W .any base t v) →
   DataW.TrodAll enc Tryz.prog W 0 (fun _ => true) true fn.params.toList args.toList ds ps → (DataW.weightsEach Tryz.prog fn.params.toList ds).all (· ≤ reachBytes) = true →
   CallsR Tryz.prog n args.toList (factsOf W) fun _ v => v = .bool true) :
  ReturnsInHanded {} Tryz.checked os n .any (s.pre6 enc Tryz.prog fn [] false) (s.post enc Tryz.prog fn false true false false) := by
 refine returnsInHanded_of_change_sized (C := Tryz.checked) Tryz.own started noInit hfn witness ?_
 intro W base args ds gs before hval hW hcnd hwt _
 have hW0 := hW
 obtain ⟨p, q, hA, hV, rfl, hfz, hnd⟩ := hW0
 rw [hvars] at hV
 obtain ⟨rfl, rfl⟩ := trodVars_none hV
 have hvt : s.plain.varTypes Tryz.checked.prog = [] := by simp [ChangeSpec.plain, DataSpec.varTypes, hvars]
 rw [hvt, List.append_nil, List.append_nil] at hwt
 have hlt : ∀ x ∈ p ++ [], x.block < W.heap.size := fun x hx => hW.lt x hx
 rw [List.append_nil] at hlt
 refine (hlaw W base args ds p hval hA hwt W (fun a v h => h)).mono ?_
 rintro e W' ⟨v, R', rfl, -, -, hext, rfl⟩
 rw [List.append_nil] at hW
 exact ⟨_, rfl, law_post Tryz.laidOut hvars hres hbool hread (hs ds (trodAll_len hA)) hW hA hext⟩
section
variable {H : Type} {enc : TypeId × Value → H} {W : World} {base fuel : Nat} {spare : Nat → Bool} {held : Bool}
end
end Go.Proofs.YtdgndfabdmecmaaGreat
namespace Go.Proofs.YtdgndfabdmecmaaGreat
open Go.ChangeShapes Go.WideShapes Go.ChangeAt Go.RowKit Go.Joins Go.Proofs.YtdgndfabdmecmaaGreat.Vc
set_option maxRecDepth 100000
section
variable {P : Program} {t : TypeId} {W : World} {r : Reach} {b0 : Nat} {v : Value}
theorem ok_int (ht : P.underlying t = some (.int .i64)) (h : Cell.okWide P W r b0 t v) : ∃ n, v = .int .i64 n := by
 unfold Cell.okWide Cell.ok at h
 rw [ht] at h
 cases v <;> simp_all
theorem ok_bool (ht : P.underlying t = some .bool) (h : Cell.okWide P W r b0 t v) : ∃ n, v = .bool n := by
 unfold Cell.okWide Cell.ok at h
 rw [ht] at h
 cases v <;> simp_all
theorem ok_str (ht : P.underlying t = some .string) (h : Cell.okWide P W r b0 t v) : ∃ n, v = .string n := by
 unfold Cell.okWide Cell.ok at h
 rw [ht] at h
 cases v <;> simp_all
theorem ok_slice {e : TypeId} (ht : P.underlying t = some (.slice e)) (h : Cell.okWide P W r b0 t v) : ∃ a n c, v = .slice a n c := by
 unfold Cell.okWide Cell.ok at h
 rw [ht] at h
 cases v <;> simp_all
theorem ok_u8 (ht : P.underlying t = some (.int .u8)) (h : Cell.okWide P W r b0 t v) : ∃ n, v = .int .u8 n ∧ 0 ≤ n ∧ n ≤ 255 := by
 unfold Cell.okWide Cell.ok at h
 rw [ht] at h
 have h1 : IntKind.u8.min = 0 := by decide
 have h2 : IntKind.u8.max = 255 := by decide
 cases v <;> simp_all
 rename_i g
 obtain ⟨_, h⟩ := h
 unfold IntKind.has at h
 omega
theorem okw_struct {fs : Array Field} {n : Nat} {ts : List TypeId} (ht : P.underlying t = some (.struct fs)) (hC : P.cellsOf t = n) (hT : P.cellTypes P.depth t = some ts) (h : Value.okWide P W r b0 t v) : ∃ cs : List Value, v = .agg cs.toArray ∧ cs.length = n ∧ ∀ i u, cs[i]? = some u → ∃ t, ts[i % ts.length]? = some t ∧ Cell.okWide P W r b0 t u := by
 unfold Value.okWide at h
 rw [ht] at h
 obtain ⟨cs, rfl, hsz, ts', hts, _, hc⟩ := h
 rw [hT] at hts
 cases hts
 rw [hC] at hsz
 exact ⟨cs.toList, rfl, hsz, fun i u hi => hc i u (by simpa using hi)⟩
theorem okw_slice {e : TypeId} (ht : P.underlying t = some (.slice e)) (h : Value.okWide P W r b0 t v) : Cell.okWide P W r b0 t v := by
 unfold Value.okWide at h
 rw [ht] at h
 exact h
theorem trod_boolP {H : Type} {enc : TypeId × Value → H} {base fuel : Nat} {spare : Nat → Bool} {held : Bool} {cs : List Value} {x : DataW H × List MemPlace} (ht : P.underlying t = some .bool) (h : DataW.trod enc P W base spare held fuel t cs = some x) : ∃ b, cs = [.bool b] := by
 cases fuel with
 | zero => simp [DataW.trod] at h
 | succ n =>
  unfold DataW.trod at h
  rw [ht] at h
  split at h <;> simp_all
theorem ed_in {v : Value} (hv : Value.okWide Tryz.prog W r b0 52 v) : ∃ e : Ed, v = e.val := by
 obtain ⟨cs, rfl, hsz, hc⟩ := okw_struct Tryz.underlying52 (n := 13) (ts := [3, 3, 3, 3, 3, 4, 3, 3, 3, 3, 3, 31, 9]) (by kernel_rfl) (by kernel_rfl) hv
 match cs, hsz with
 | [c0, c1, c2, c3, c4, c5, c6, c7, c8, c9, c10, c11, c12], _ =>
  obtain ⟨u, hu, k0⟩ := hc 0 c0 rfl
  cases hu
  obtain ⟨u, hu, k1⟩ := hc 1 c1 rfl
  cases hu
  obtain ⟨u, hu, k2⟩ := hc 2 c2 rfl
  cases hu
  obtain ⟨u, hu, k3⟩ := hc 3 c3 rfl
  cases hu
  obtain ⟨u, hu, k4⟩ := hc 4 c4 rfl
  cases hu
  obtain ⟨u, hu, k5⟩ := hc 5 c5 rfl
  cases hu
  obtain ⟨u, hu, k6⟩ := hc 6 c6 rfl
  cases hu
  obtain ⟨u, hu, k7⟩ := hc 7 c7 rfl
  cases hu
  obtain ⟨u, hu, k8⟩ := hc 8 c8 rfl
  cases hu
  obtain ⟨u, hu, k9⟩ := hc 9 c9 rfl
  cases hu
  obtain ⟨u, hu, k10⟩ := hc 10 c10 rfl
  cases hu
  obtain ⟨u, hu, k11⟩ := hc 11 c11 rfl
  cases hu
  obtain ⟨u, hu, k12⟩ := hc 12 c12 rfl
  cases hu
  obtain ⟨n0, rfl⟩ := ok_int Tryz.underlying3 k0
  obtain ⟨n1, rfl⟩ := ok_int Tryz.underlying3 k1
  obtain ⟨n2, rfl⟩ := ok_int Tryz.underlying3 k2
  obtain ⟨n3, rfl⟩ := ok_int Tryz.underlying3 k3
  obtain ⟨n4, rfl⟩ := ok_int Tryz.underlying3 k4
  obtain ⟨n5, rfl⟩ := ok_bool Tryz.underlying4 k5
  obtain ⟨n6, rfl⟩ := ok_int Tryz.underlying3 k6
  obtain ⟨n7, rfl⟩ := ok_int Tryz.underlying3 k7
  obtain ⟨n8, rfl⟩ := ok_int Tryz.underlying3 k8
  obtain ⟨n9, rfl⟩ := ok_int Tryz.underlying3 k9
  obtain ⟨n10, rfl⟩ := ok_int Tryz.underlying3 k10
  obtain ⟨a, n, c, rfl⟩ := ok_slice Tryz.underlying31 k11
  obtain ⟨z, rfl⟩ := ok_str Tryz.underlying9 k12
  exact ⟨⟨n0, n1, n2, n3, ⟨n4, n5, n6, n7, n8⟩, n9, n10, a, n, c, z⟩, rfl⟩
end
section
variable {H : Type} {enc : TypeId × Value → H} {W : World} {base fuel : Nat} {spare : Nat → Bool} {held : Bool}
theorem trod_edit {cs : List Value} {x : DataW H × List MemPlace} (h : DataW.trod enc Tryz.prog W base spare held fuel 52 cs = some x) : ∃ e : Ed, cs = e.cells := by
 obtain ⟨xs, n, _, _, hl, hlen, hf⟩ := DataW.trod_struct Tryz.underlying52 h
 have hC : Tryz.prog.cellsOf 52 = 13 := by kernel_rfl
 have hC3 : Tryz.prog.cellsOf 3 = 1 := by kernel_rfl
 have hC4 : Tryz.prog.cellsOf 4 = 1 := by kernel_rfl
 have hC9 : Tryz.prog.cellsOf 9 = 1 := by kernel_rfl
 have hCr : Tryz.prog.cellsOf 31 = 1 := by kernel_rfl
 have hCm : Tryz.prog.cellsOf 50 = 5 := by kernel_rfl
 rw [hC] at hl
 match xs, hlen, cs, hl with
 | [y0, y1, y2, y3, y4, y5, y6, y7, y8], _, [c0, c1, c2, c3, c4, c5, c6, c7, c8, c9, c10, c11, c12], _ =>
  have h0 : DataW.trod enc Tryz.prog W base spare held n 3 (([c0, c1, c2, c3, c4, c5, c6, c7, c8, c9, c10, c11, c12].drop 0).take (Tryz.prog.cellsOf 3)) = [y0, y1, y2, y3, y4, y5, y6, y7, y8][0]? := hf 0 _ rfl
  have h1 : DataW.trod enc Tryz.prog W base spare held n 3 (([c0, c1, c2, c3, c4, c5, c6, c7, c8, c9, c10, c11, c12].drop 1).take (Tryz.prog.cellsOf 3)) = [y0, y1, y2, y3, y4, y5, y6, y7, y8][1]? := hf 1 _ rfl
  have h2 : DataW.trod enc Tryz.prog W base spare held n 3 (([c0, c1, c2, c3, c4, c5, c6, c7, c8, c9, c10, c11, c12].drop 2).take (Tryz.prog.cellsOf 3)) = [y0, y1, y2, y3, y4, y5, y6, y7, y8][2]? := hf 2 _ rfl
  have h3 : DataW.trod enc Tryz.prog W base spare held n 3 (([c0, c1, c2, c3, c4, c5, c6, c7, c8, c9, c10, c11, c12].drop 3).take (Tryz.prog.cellsOf 3)) = [y0, y1, y2, y3, y4, y5, y6, y7, y8][3]? := hf 3 _ rfl
  have h4 : DataW.trod enc Tryz.prog W base spare held n 50 (([c0, c1, c2, c3, c4, c5, c6, c7, c8, c9, c10, c11, c12].drop 4).take (Tryz.prog.cellsOf 50)) = [y0, y1, y2, y3, y4, y5, y6, y7, y8][4]? := hf 4 _ rfl
  have h5 : DataW.trod enc Tryz.prog W base spare held n 3 (([c0, c1, c2, c3, c4, c5, c6, c7, c8, c9, c10, c11, c12].drop 9).take (Tryz.prog.cellsOf 3)) = [y0, y1, y2, y3, y4, y5, y6, y7, y8][5]? := hf 5 _ rfl
  have h6 : DataW.trod enc Tryz.prog W base spare held n 3 (([c0, c1, c2, c3, c4, c5, c6, c7, c8, c9, c10, c11, c12].drop 10).take (Tryz.prog.cellsOf 3)) = [y0, y1, y2, y3, y4, y5, y6, y7, y8][6]? := hf 6 _ rfl
  have h7 : DataW.trod enc Tryz.prog W base spare held n 31 (([c0, c1, c2, c3, c4, c5, c6, c7, c8, c9, c10, c11, c12].drop 11).take (Tryz.prog.cellsOf 31)) = [y0, y1, y2, y3, y4, y5, y6, y7, y8][7]? := hf 7 _ rfl
  have h8 : DataW.trod enc Tryz.prog W base spare held n 9 (([c0, c1, c2, c3, c4, c5, c6, c7, c8, c9, c10, c11, c12].drop 12).take (Tryz.prog.cellsOf 9)) = [y0, y1, y2, y3, y4, y5, y6, y7, y8][8]? := hf 8 _ rfl
  simp only [hC3, hC9, hCr, hCm, List.drop_zero, List.drop_succ_cons, List.take_succ_cons, List.take_zero, List.getElem?_cons_zero, List.getElem?_cons_succ] at h0 h1 h2 h3 h4 h5 h6 h7 h8
  obtain ⟨z0, e0, -, -⟩ := DataW.trod_int Tryz.underlying3 h0
  obtain ⟨z1, e1, -, -⟩ := DataW.trod_int Tryz.underlying3 h1
  obtain ⟨z2, e2, -, -⟩ := DataW.trod_int Tryz.underlying3 h2
  obtain ⟨z3, e3, -, -⟩ := DataW.trod_int Tryz.underlying3 h3
  obtain ⟨z5, e5, -, -⟩ := DataW.trod_int Tryz.underlying3 h5
  obtain ⟨z6, e6, -, -⟩ := DataW.trod_int Tryz.underlying3 h6
  obtain ⟨z8, e8, -, -⟩ := DataW.trod_string Tryz.underlying9 h8
  obtain ⟨ms, n', _, _, _, hlen', hf'⟩ := DataW.trod_struct Tryz.underlying50 h4
  obtain ⟨a, l, c, e7⟩ : ∃ a l c, [c11] = [Value.slice a l c] := by
   rcases DataW.trod_slice Tryz.underlying31 h7 with ⟨e, _⟩ | ⟨a, l, c, _, _, _, _, e, _⟩
   ·exact ⟨_, _, _, e⟩
   ·exact ⟨_, _, _, e⟩
  match ms, hlen' with
  | [y0', y1', y2', y3', y4'], _ =>
   have k0 : DataW.trod enc Tryz.prog W base spare held n' 3 (([c4, c5, c6, c7, c8].drop 0).take (Tryz.prog.cellsOf 3)) = [y0', y1', y2', y3', y4'][0]? := hf' 0 _ rfl
   have k1 : DataW.trod enc Tryz.prog W base spare held n' 4 (([c4, c5, c6, c7, c8].drop 1).take (Tryz.prog.cellsOf 4)) = [y0', y1', y2', y3', y4'][1]? := hf' 1 _ rfl
   have k2 : DataW.trod enc Tryz.prog W base spare held n' 3 (([c4, c5, c6, c7, c8].drop 2).take (Tryz.prog.cellsOf 3)) = [y0', y1', y2', y3', y4'][2]? := hf' 2 _ rfl
   have k3 : DataW.trod enc Tryz.prog W base spare held n' 3 (([c4, c5, c6, c7, c8].drop 3).take (Tryz.prog.cellsOf 3)) = [y0', y1', y2', y3', y4'][3]? := hf' 3 _ rfl
   have k4 : DataW.trod enc Tryz.prog W base spare held n' 3 (([c4, c5, c6, c7, c8].drop 4).take (Tryz.prog.cellsOf 3)) = [y0', y1', y2', y3', y4'][4]? := hf' 4 _ rfl
   simp only [hC3, hC4, List.drop_zero, List.drop_succ_cons, List.take_succ_cons, List.take_zero, List.getElem?_cons_zero, List.getElem?_cons_succ] at k0 k1 k2 k3 k4
   obtain ⟨w0, g0, -, -⟩ := DataW.trod_int Tryz.underlying3 k0
   obtain ⟨w2, g2, -, -⟩ := DataW.trod_int Tryz.underlying3 k2
   obtain ⟨w3, g3, -, -⟩ := DataW.trod_int Tryz.underlying3 k3
   obtain ⟨w4, g4, -, -⟩ := DataW.trod_int Tryz.underlying3 k4
   obtain ⟨w1, g1⟩ := trod_boolP Tryz.underlying4 k1
   simp only [List.cons.injEq, and_true] at e0 e1 e2 e3 e5 e6 e7 e8 g0 g1 g2 g3 g4
   subst e0 e1 e2 e3 e5 e6 e7 e8 g0 g1 g2 g3 g4
   exact ⟨⟨z0, z1, z2, z3, ⟨w0, w1, w2, w3, w4⟩, z5, z6, a, l, c, z8⟩, rfl⟩
theorem eds_in {v : Value} {d : DataW H} {p : List MemPlace} {r : Reach} {b0 : Nat} (hv : Value.okWide Tryz.prog W r b0 22 v) (h : DataW.Trod enc Tryz.prog W base spare held 22 v d p) (hw : ∀ n ∈ d.weights Tryz.prog 22, n ≤ reachBytes) :
  ∃ es, EdC (factsOf W) v es ∧ es.length ≤ 1099511627776 := by
 obtain ⟨fuel, hf⟩ := h
 have hC : Tryz.prog.cellsOf 52 = 13 := by kernel_rfl
 have hB : Tryz.prog.bytesOf 52 = 128 := by kernel_rfl
 obtain ⟨a0, l0, c0, rfl⟩ := ok_slice Tryz.underlying22 (okw_slice Tryz.underlying22 hv)
 rcases Go.Deep.open_slice Tryz.underlying22 hf with ⟨e, _⟩ | ⟨a, len, cap, m, n, D, Pl, e, -, hl, hm, hmm, hx, hi⟩
 ·simp only [Value.cells, List.cons.injEq, and_true, List.toList_toArray] at e
  rw [e]
  exact ⟨[], ⟨none, 0, rfl, Nat.le_refl _, by simp⟩, by simp⟩
 ·simp only [Value.cells, List.cons.injEq, and_true, List.toList_toArray] at e
  rw [e]
  obtain ⟨rfl, _⟩ := Prod.mk.inj hx
  have hlm : len ≤ m := by rw [hmm]; split <;> omega
  rw [hC] at hi
  have each : ∀ i, i < m → ∃ e : Ed, ∀ j v, (e.cells)[j]? = some v → W.cell? ((a.add (i * 13)).add j) = some v := by
   intro i him
   obtain ⟨cs', hc, ht⟩ := hi i him
   obtain ⟨_, hcl, hat⟩ := World.cells?_some hc
   obtain ⟨e, rfl⟩ := trod_edit ht
   refine ⟨e, fun j v hj => ?_⟩
   have hj13 : j < 13 := (List.getElem?_eq_some_iff.1 hj).1
   rw [hat j hj13]
   exact hj
  have hlen : len * 128 ≤ reachBytes := by
   have := hw ((((List.range len).map D).length + ((List.range (m - len)).map fun j => D (len + j)).length) * 128) (by
    simp only [DataW.weights, Tryz.underlying22, hB]
    exact List.mem_cons_self)
   simp only [List.length_map, List.length_range] at this
   omega
  unfold reachBytes at hlen
  let f : Nat → Ed := fun i => if h : i < m then (each i h).choose else ⟨0, 0, 0, 0, ⟨0, false, 0, 0, 0⟩, 0, 0, none, 0, 0, ⟨#[]⟩⟩
  have hf : ∀ i, i < len → ∀ j v, ((f i).cells)[j]? = some v → W.cell? ((a.add (i * 13)).add j) = some v := by
   intro i hi'
   have him : i < m := by omega
   simp only [f, him, dif_pos]
   exact (each i him).choose_spec
  refine ⟨(List.range len).map f, ⟨some a, cap, by simp, by simpa using hl, fun i us hi' => ?_⟩, by simp; omega⟩
  rw [List.getElem?_map, List.getElem?_map] at hi'
  obtain ⟨r, hr, rfl⟩ := Option.map_eq_some_iff.1 hi'
  obtain ⟨i', hi'', rfl⟩ := Option.map_eq_some_iff.1 hr
  have hii := List.getElem?_eq_some_iff.1 hi''
  simp only [List.length_range, List.getElem_range] at hii
  obtain ⟨hlt, rfl⟩ := hii
  exact ⟨rfl, a, rfl, fun j u hj => hf i hlt j u hj⟩
theorem each_weight {ts : List TypeId} {ds : List (DataW H)} (h : (DataW.weightsEach Tryz.prog ts ds).all (· ≤ reachBytes) = true) {j : Nat} {t : TypeId} {d : DataW H} (ht : ts[j]? = some t) (hd : ds[j]? = some d) : ∀ n ∈ d.weights Tryz.prog t, n ≤ reachBytes := fun n hn => by
 have := List.all_eq_true.1 h n (DataW.weights_mem_each ht hd n hn)
 simpa using this
end
end Go.Proofs.YtdgndfabdmecmaaGreat
namespace Go.Proofs.YtdgndfabdmecmaaGreat
open Go.ChangeShapes Go.WideShapes Go.ChangeAt Go.RowKit Go.Joins Go.Proofs.YtdgndfabdmecmaaGreat.Vc
set_option maxRecDepth 100000
theorem u8_wfz {n : Int} (h : (Lit.int .u8 n).wf = true) : 0 ≤ n ∧ n ≤ 255 := by
 have h1 : IntKind.u8.min = 0 := by decide
 have h2 : IntKind.u8.max = 255 := by decide
 simp only [Lit.wf, IntKind.has, Bool.and_eq_true, decide_eq_true_eq] at h
 rw [h1, h2] at h
 omega
section
variable {H : Type} {enc : TypeId × Value → H} {W : World} {base fuel : Nat} {spare : Nat → Bool} {held : Bool}
theorem u8s_open {cs : List Value} {x : DataW H × List MemPlace} (h : DataW.trod enc Tryz.prog W base spare held fuel 23 cs = some x) : ∃ v l, cs = [v] ∧ U8s (factsOf W) v l ∧ ∀ n ∈ l, 0 ≤ n ∧ n ≤ 255 := by
 rcases open_ints Tryz.underlying23 Tryz.underlying5 (by kernel_rfl) h with ⟨rfl, rfl⟩ | ⟨a, len, cap, zs, rfl, -, hl, hm, hz, rfl, hcell, hwf⟩
 ·exact ⟨_, [], rfl, ⟨none, 0, rfl, Nat.le_refl _, by simp⟩, by simp⟩
 ·have hlen : len ≤ zs.length := by rw [hz]; split <;> omega
  refine ⟨_, zs.take len, rfl, ⟨some a, cap, by simp [List.length_take, Nat.min_eq_left hlen], by simp [List.length_take]; omega, fun i hi => ⟨a, rfl, fun j u hj => ?_⟩⟩, fun m hmem => u8_wfz (hwf m (List.mem_of_mem_take hmem))⟩
  have hil : i < len := by simp [List.length_take] at hi; omega
  have hiz : i < zs.length := by omega
  have hc := hcell i hiz
  rw [List.getD_eq_getElem?_getD, List.getElem?_eq_getElem hiz, Option.getD_some] at hc
  match j, hj with
  | 0, hj =>
   simp only [List.getElem?_cons_zero, Option.some.injEq] at hj
   subst hj
   rw [Nat.mul_one, List.getElem_take]
   exact hc
theorem raw_in {v : Value} {d : DataW H} {p : List MemPlace} {r : Reach} {b0 : Nat} (hv : Value.okWide Tryz.prog W r b0 27 v) (h : DataW.Trod enc Tryz.prog W base spare held 27 v d p) :
  ∃ (w : Rw) (g o : Value), v = .agg (w.cells g o).toArray ∧ RwOK w ∧ U8s (factsOf W) g w.gaps ∧ U8s (factsOf W) o w.offs := by
 obtain ⟨cs, rfl, hsz, hc⟩ := okw_struct Tryz.underlying27 (n := 14) (ts := [5, 23, 23, 5, 5, 5, 5, 5, 5, 5, 5, 5, 5, 4]) (by kernel_rfl) (by kernel_rfl) hv
 obtain ⟨fuel, hf⟩ := h
 have hCb : Tryz.prog.cellsOf 5 = 1 := by kernel_rfl
 have hCs : Tryz.prog.cellsOf 23 = 1 := by kernel_rfl
 match cs, hsz with
 | [c0, c1, c2, c3, c4, c5, c6, c7, c8, c9, c10, c11, c12, c13], _ =>
  obtain ⟨xs, n, _, _, hl, hlen, hg⟩ := DataW.trod_struct Tryz.underlying27 hf
  match xs, hlen with
  | [y0, y1, y2, y3, y4, y5, y6], _ =>
  have h1 : DataW.trod enc Tryz.prog W base spare held n 23 (([c0, c1, c2, c3, c4, c5, c6, c7, c8, c9, c10, c11, c12, c13].drop 1).take (Tryz.prog.cellsOf 23)) = [y0, y1, y2, y3, y4, y5, y6][1]? := hg 1 _ rfl
  have h2 : DataW.trod enc Tryz.prog W base spare held n 23 (([c0, c1, c2, c3, c4, c5, c6, c7, c8, c9, c10, c11, c12, c13].drop 2).take (Tryz.prog.cellsOf 23)) = [y0, y1, y2, y3, y4, y5, y6][2]? := hg 2 _ rfl
  simp only [hCs, List.drop_zero, List.drop_succ_cons, List.take_succ_cons, List.take_zero, List.getElem?_cons_zero, List.getElem?_cons_succ] at h1 h2
  obtain ⟨g, gl, e1, hgu, hgb⟩ := u8s_open h1
  obtain ⟨o, ol, e2, hou, hob⟩ := u8s_open h2
  simp only [List.cons.injEq, and_true] at e1 e2
  subst e1 e2
  obtain ⟨u, hu, k0⟩ := hc 0 c0 rfl
  cases hu
  obtain ⟨u, hu, k3⟩ := hc 3 c3 rfl
  cases hu
  obtain ⟨u, hu, k4⟩ := hc 4 c4 rfl
  cases hu
  obtain ⟨u, hu, k5⟩ := hc 5 c5 rfl
  cases hu
  obtain ⟨u, hu, k6⟩ := hc 6 c6 rfl
  cases hu
  obtain ⟨u, hu, k7⟩ := hc 7 c7 rfl
  cases hu
  obtain ⟨u, hu, k8⟩ := hc 8 c8 rfl
  cases hu
  obtain ⟨u, hu, k9⟩ := hc 9 c9 rfl
  cases hu
  obtain ⟨u, hu, k10⟩ := hc 10 c10 rfl
  cases hu
  obtain ⟨u, hu, k11⟩ := hc 11 c11 rfl
  cases hu
  obtain ⟨u, hu, k12⟩ := hc 12 c12 rfl
  cases hu
  obtain ⟨u, hu, k13⟩ := hc 13 c13 rfl
  cases hu
  obtain ⟨n0, rfl, b0⟩ := ok_u8 Tryz.underlying5 k0
  obtain ⟨n3, rfl, b3⟩ := ok_u8 Tryz.underlying5 k3
  obtain ⟨n4, rfl, b4⟩ := ok_u8 Tryz.underlying5 k4
  obtain ⟨n5, rfl, b5⟩ := ok_u8 Tryz.underlying5 k5
  obtain ⟨n6, rfl, b6⟩ := ok_u8 Tryz.underlying5 k6
  obtain ⟨n7, rfl, b7⟩ := ok_u8 Tryz.underlying5 k7
  obtain ⟨n8, rfl, b8⟩ := ok_u8 Tryz.underlying5 k8
  obtain ⟨n9, rfl, b9⟩ := ok_u8 Tryz.underlying5 k9
  obtain ⟨n10, rfl, b10⟩ := ok_u8 Tryz.underlying5 k10
  obtain ⟨n11, rfl, b11⟩ := ok_u8 Tryz.underlying5 k11
  obtain ⟨n12, rfl, b12⟩ := ok_u8 Tryz.underlying5 k12
  obtain ⟨n13, rfl⟩ := ok_bool Tryz.underlying4 k13
  refine ⟨⟨n0, gl, ol, n3, n4, n5, n6, n7, n8, n9, n10, n11, n12, n13⟩, c1, c2, rfl, ⟨b0, b3, fun x hx => ?_, b12, hgb, hob⟩, hgu, hou⟩
  simp only [List.mem_cons, List.not_mem_nil, or_false] at hx
  rcases hx with rfl | rfl | rfl | rfl | rfl | rfl | rfl | rfl <;> assumption
end
end Go.Proofs.YtdgndfabdmecmaaGreat
