/- Plain lemmas of our own, no statement of the seat: slices.Backward over the rules of a calendar, and the leap year's test that ranges over it. -/
import Derived.RangeFuncNested
import Derived.RangeFuncBound
import Derived.RangeFuncCalls
import Derived.RangeFuncLeaves
import Derived.Shelf.Abstract
import Derived.Shelf.RegionOpen
import Derived.WalkKit
import Derived.OwnWalkIn
import Derived.TacticsInMore
import Derived.LoopNIn
import Derived.LoopIn
import Derived.Test.YtpbnjoopgignoaaCa
namespace Go.Proofs.Ytpbnjoopgignoaa
set_option linter.unusedSimpArgs false
set_option linter.unusedVariables false
open Go.RowKit Go.Shelf Go.Proofs.Ytpbnjoopgignoaa.Vc
attribute [local go_sem] Oper.semAt_some

def rv (r : Rule) : Value := .agg #[.int .i64 r.1, .int .i64 r.2.1, .bool r.2.2]
/-- The k-th to come: the index from behind, and the rule there. -/
def fromEnd (zs : List Rule) (k : Nat) : Int × Rule := ((zs.length - 1 - k : Int), zs[zs.length - 1 - k]?.getD (0, 0, false))
def upto {α : Type} (f : Nat → α) (k : Nat) : List α := (List.range k).map f
theorem upto_succ {α : Type} (f : Nat → α) (k : Nat) : upto f (k + 1) = upto f k ++ [f k] := by simp [upto, List.range_succ]
theorem upto_length {α : Type} (f : Nat → α) (k : Nat) : (upto f k).length = k := by simp [upto]

set_option maxRecDepth 100000 in
set_option maxHeartbeats 2000000 in
theorem back1_in (F : Fence) (n : Nat) (hf : F.fn 72) (hro : F.round = none) (hn : 1 ≤ n) (l Bs n₀ b off cap : Nat) (zs : List Rule) (hreach : zs.length * 24 ≤ 140737488351232) (hb : zs ≠ [] → b < n₀) (hBn : Bs < n₀) (a : Option Addr) (ha : zs ≠ [] → a = some ⟨b, off, none⟩)
    (J Jx : List (Int × Rule) → World → Prop)
    (hY : ∀ pre x W, J pre W → pre.length < zs.length → YieldAt F (n - 1) Try.prog l #[.int .i64 x.1, rv x.2] W fun e W' =>
      (e = .returned (.bool true) ∧ J (pre ++ [x]) W' ∧ Below n₀ W W') ∨ (e = .returned (.bool false) ∧ Jx (pre ++ [x]) W'))
    (W : World) (hBs : W.cell? ⟨Bs, 0, none⟩ = some (.slice a zs.length cap)) (hc : ∀ j, j < zs.length → ∀ i, i < 3 → W.cell? ⟨b, off + j * 3 + i, none⟩ = (rcells (zs[j]?.getD (0, 0, false)))[i]?) (h0 : J [] W) :
    CallsIn F n Try.prog 72 #[.func (.yield l) #[] #[], .pointer (some ⟨Bs, 0, none⟩)] W fun e W' => (∃ v, e = .returned v) ∧
      ((∃ ys, ys = upto (fromEnd zs) zs.length ∧ J ys W') ∨ (∃ pre, (∃ k, k ≤ zs.length ∧ pre = upto (fromEnd zs) k) ∧ Jx pre W')) := by
  refine callsIn_of_wp Try.func72 rfl hf ?_ hro
  simp only [Try.ntmps72, List.size_toArray, List.length_cons, List.length_nil, Nat.reduceAdd, Nat.reduceSub, Array.replicate_succ, Array.replicate_zero, List.push_toArray, List.append_toArray, List.nil_append, List.cons_append]
  gi_wp2
  gi_loopw [3] (fun i wr => ∃ k : Nat, k ≤ zs.length ∧ i = .int .i64 (zs.length - 1 - k : Int) ∧ J (upto (fromEnd zs) k) wr ∧ Below n₀ W wr)
    (fun i _ => (intOf i + 1).toNat)
  case atStart => exact ⟨0, Nat.zero_le _, by simp, h0, Below.refl _ _⟩
  case round =>
    obtain ⟨k, hk, rfl, hJs, hnx⟩ := hrel
    have hB := (hnx.cell (p := ⟨Bs, 0, none⟩) hBn).trans hBs
    by_cases hlt : k < zs.length
    · have hne : zs ≠ [] := by rintro rfl; simp at hlt
      have hj : zs.length - 1 - k < zs.length := by omega
      obtain rfl := ha hne
      have hcx : ∀ i, i < 3 → wr.cell? ⟨b, off + (zs.length - 1 - k) * 3 + i, none⟩ = (rcells (zs[zs.length - 1 - k]?.getD (0, 0, false)))[i]? := fun i hi => (hnx.cell (p := ⟨b, off + (zs.length - 1 - k) * 3 + i, none⟩) (hb hne)).trans (hc _ hj i hi)
      have hc0 := hcx 0 (by omega)
      have hc1 := hcx 1 (by omega)
      have hc2 := hcx 2 (by omega)
      obtain ⟨fn, tmps, assign, body, hy, hR⟩ := hY _ (fromEnd zs k) wr hJs (by rw [upto_length]; exact hlt)
      simp only [fromEnd, rv] at hy
      simp only [rcells, List.getElem?_cons_zero, List.getElem?_cons_succ, Nat.add_zero] at hc0 hc1 hc2
      generalize zs[zs.length - 1 - k]?.getD (0, 0, false) = r at hy hc0 hc1 hc2
      obtain ⟨ev, rest, yes⟩ := r
      dsimp only at hy hc0 hc1 hc2
      clear hcx
      gi_wp2
      refine hR.mono ?_
      rintro e W3 (⟨rfl, hJ3, hk3⟩ | ⟨rfl, hJx3⟩)
      · gi_wp2
        go_roundw
        case rel => exact ⟨k + 1, by omega, by congr 1; omega, by rw [upto_succ]; exact hJ3, hnx.trans hk3⟩
        case measure => simp [intOf]; omega
      · gi_wp2
        refine bodyPost_ret (results_none rfl _ _ _) rfl ?_
        exact ⟨⟨_, rfl⟩, .inr ⟨_, ⟨k + 1, by omega, (upto_succ _ _).symm⟩, hJx3⟩⟩
    · obtain rfl : k = zs.length := by omega
      gi_wp2
      go_end0
      exact ⟨⟨_, rfl⟩, .inl ⟨_, rfl, hJs⟩⟩
set_option maxHeartbeats 1000000 in
theorem back_in (F : Fence) (n : Nat) (hf : F.fn 66) (hro : F.round = none) (a : Option Addr) (len cap : Nat) (w : World) :
    CallsIn F n Try.prog 66 #[.slice a len cap] w fun e w' => e = .returned (.func (.func 72) #[] #[.pointer (some ⟨w.heap.size, 0, none⟩)]) ∧ w' = w.alloc (.cells #[.slice a len cap] 23) := by
  refine callsIn_of_wp Try.func66 rfl hf ?_ hro
  simp only [Try.ntmps66, List.size_toArray, List.length_cons, List.length_nil, Nat.reduceAdd, Nat.reduceSub, Array.replicate_succ, Array.replicate_zero, List.push_toArray, List.append_toArray, List.nil_append, List.cons_append]
  gi_wp2
  go_ret
  exact ⟨rfl, rfl⟩
theorem back_stops (F : Fence) (n : Nat) (hf : F.fn 72) (hro : F.round = none) (hn : 1 ≤ n) (Bs n₀ b off cap : Nat) (zs : List Rule) (hreach : zs.length * 24 ≤ 140737488351232) (w : World) (hn₀ : n₀ ≤ w.heap.size) (hb : zs ≠ [] → b < n₀) (hBn : Bs < n₀)
    (a : Option Addr) (ha : zs ≠ [] → a = some ⟨b, off, none⟩) (hBs : w.cell? ⟨Bs, 0, none⟩ = some (.slice a zs.length cap)) (hc : ∀ j, j < zs.length → ∀ i, i < 3 → w.cell? ⟨b, off + j * 3 + i, none⟩ = (rcells (zs[j]?.getD (0, 0, false)))[i]?) :
    SeqStopsK F n Try.prog 72 #[.pointer (some ⟨Bs, 0, none⟩)] (fun x : Int × Rule => #[Value.int .i64 x.1, rv x.2]) (Below n₀) (fun ys => ys = upto (fromEnd zs) zs.length)
      (fun pre => ∃ k, k ≤ zs.length ∧ pre = upto (fromEnd zs) k) zs.length w := fun l J Jx W hW _ _ hY h0 =>
  back1_in F n hf hro hn l Bs n₀ b off cap zs hreach hb hBn a ha J Jx hY W ((hW.cell (p := ⟨Bs, 0, none⟩) (Nat.lt_of_lt_of_le hBn hn₀)).trans hBs)
    (fun j hj i hi => (hW.cell (p := ⟨b, off + j * 3 + i, none⟩) (Nat.lt_of_lt_of_le (hb (by rintro rfl; simp at hj)) hn₀)).trans (hc j hj i hi)) h0
/-- The remainder, as the code reckons it, at whatever numbers. -/
def modv (a b : Int) : Int := if b < 1 then 0 else if a.tmod b < 0 then IntKind.i64.wrap (a.tmod b + b) else a.tmod b
theorem modv_eq {a b : Int} (hb : 1 ≤ b) (hb2 : I64 b) : modv a b = a % b := by
  have h1 := tmod_fix a b hb
  have h2 := tmod_bd a b hb
  unfold I64 at *
  unfold modv
  rw [if_neg (by omega)]
  split
  · rename_i h
    rw [if_pos h] at h1
    have := W.in64 (r := a.tmod b + b) (by omega)
    unfold W at this
    rw [← this, h1]
  · rename_i h
    rw [if_neg h] at h1; exact h1
theorem nmodw (a b : Int) (hb : 1 ≤ b) (R : RO) : CallsR Try.prog 57 [.int .i64 a, .int .i64 b] R fun _ v => v = .int .i64 (modv a b) := by
  refine callsT mix Try.func57 comp57 (by simp [Try.ntmps57]) ?_; simp only [go_sem, ↓reduceIte, Nat.reduceEqDiff, Nat.reduceAdd, Nat.reduceMul, Nat.reduceLeDiff, Nat.reduceLT, Nat.reduceBNe, reduceCtorEq, vc57, rs57]
  unfold modv
  rw [if_neg (by omega)]
  refine ⟨by omega, fun h => ⟨_, W.mk _ _, by rw [if_pos h]⟩, fun h => by rw [if_neg h]⟩
theorem cmodw (a b : Int) (R : RO) : CallsR Try.prog 37 [.int .i64 a, .int .i64 b] R fun _ v => v = .int .i64 (modv a b) := by
  have hM : CallsR Try.prog 61 [.int .i64 a, .int .i64 b] R fun _ v => ∃ e, v = .tuple #[.int .i64 (modv a b), .int .i64 e] := by
    refine callsT mix Try.func61 comp61 (by simp [Try.ntmps61]) ?_; simp only [go_sem, ↓reduceIte, Nat.reduceEqDiff, Nat.reduceAdd, Nat.reduceMul, Nat.reduceLeDiff, Nat.reduceLT, Nat.reduceBNe, reduceCtorEq, vc61, rs61]
    refine ⟨fun h => ⟨_, by simp [modv, h]; rfl⟩, fun h => vcall (nmodw a b (by omega) R) ?_⟩
    rintro R' v hle rfl
    try simp only [go_sem, ↓reduceIte, Nat.reduceEqDiff, Nat.reduceAdd, Nat.reduceMul, Nat.reduceLeDiff, Nat.reduceLT, Nat.reduceBNe, reduceCtorEq]
    exact ⟨_, rfl⟩
  refine callsT mix Try.func37 comp37 (by simp [Try.ntmps37]) ?_; simp only [go_sem, ↓reduceIte, Nat.reduceEqDiff, Nat.reduceAdd, Nat.reduceMul, Nat.reduceLeDiff, Nat.reduceLT, Nat.reduceBNe, reduceCtorEq, vc37, rs37]
  refine vcall hM ?_
  rintro R' v hle ⟨e, rfl⟩
  try simp only [go_sem, ↓reduceIte, Nat.reduceEqDiff, Nat.reduceAdd, Nat.reduceMul, Nat.reduceLeDiff, Nat.reduceLT, Nat.reduceBNe, reduceCtorEq]
/-- A rule of the year y. -/
def hit (y : Int) (r : Rule) : Prop := modv y r.1 = r.2.1
instance (y : Int) (r : Rule) : Decidable (hit y r) := by unfold hit; infer_instance
theorem cmod_in (a b : Int) (n : Nat) (W : World) : CallsIn Fence.wide n Try.prog 37 #[.int .i64 a, .int .i64 b] W fun e W' => e = .returned (.int .i64 (modv a b)) ∧ Ext W W' := by
  refine callsIn_wide.2 ?_
  have h := cmodw a b (fun _ _ => False) W (fun _ _ h => h.elim)
  refine Calls.mono h ?_
  rintro e w' ⟨v, R', rfl, _, _, hext, rfl⟩
  exact ⟨rfl, hext⟩
theorem Boxed.ext {W W' : World} {B : Nat} {t : TypeId} {v : Value} (h : Boxed W B t v) (he : Ext W W') : Boxed W' B t v := (he.block B h.lt).trans h
theorem keepsOthers_ext {W W' : World} (he : Ext W W') : KeepsOthers W W' := ⟨he.size, fun k o hk _ => (he.block k (Array.getElem?_eq_some_iff.1 hk).1).trans hk⟩
set_option maxRecDepth 100000 in
set_option maxHeartbeats 4000000 in
theorem leap_in (n : Nat) (hn : 3 ≤ n) (y : Int) (hy : I64 y) (e l0 : Int) (sm st : Value) (b off cap : Nat) (a : Option Addr) (zs : List Rule) (hbd : ∀ r ∈ zs, I64 r.1 ∧ I64 r.2.1) (hreach : zs.length * 24 ≤ 140737488351232) (w : World) (hb : zs ≠ [] → b < w.heap.size)
    (ha : zs ≠ [] → a = some ⟨b, off, none⟩) (hc : ∀ j, j < zs.length → ∀ i, i < 3 → w.cell? ⟨b, off + j * 3 + i, none⟩ = (rcells (zs[j]?.getD (0, 0, false)))[i]?) :
    CallsIn Fence.wide n Try.prog 52 #[.agg #[.int .i64 e, sm, .int .i64 l0, .slice a zs.length cap, st], .int .i64 y] w fun e W' =>
      ((e = .returned (.bool false) ∧ ∀ r ∈ zs, ¬ hit y r) ∨ (∃ k : Nat, k < zs.length ∧ e = .returned (.bool (fromEnd zs k).2.2.2) ∧ hit y (fromEnd zs k).2 ∧ ∀ j, j < k → ¬ hit y (fromEnd zs j).2)) ∧ Below w.heap.size w W' := by
  have h1 : 1 ≤ n := by omega
  refine callsIn_of_wp_marks Try.func52 rfl trivial ?_ rfl
  simp only [Try.ntmps52, List.size_toArray, List.length_cons, List.length_nil, Nat.reduceAdd, Nat.reduceSub, Array.replicate_succ, Array.replicate_zero, List.push_toArray, List.append_toArray, List.nil_append, List.cons_append]
  gi_wp2_with (refine ⟨trivial, ?_⟩; gi_at_call 66; refine (back_in Fence.wide (n - 1) trivial rfl _ _ _ _).mono ?_; rintro e w' ⟨rfl, rfl⟩)
  have bY := ((Boxed.new (w.alloc (.cells #[.int .i64 e, sm, .int .i64 l0, .slice a zs.length cap, st] 64)) 3 (.int .i64 y)).alloc (.cells #[.bool false] 4)).alloc (.cells #[.slice a zs.length cap] 23)
  have bR := (Boxed.new ((w.alloc (.cells #[.int .i64 e, sm, .int .i64 l0, .slice a zs.length cap, st] 64)).alloc (.cells #[.int .i64 y] 3)) 4 (.bool false)).alloc (.cells #[.slice a zs.length cap] 23)
  have bS := Boxed.new (((w.alloc (.cells #[.int .i64 e, sm, .int .i64 l0, .slice a zs.length cap, st] 64)).alloc (.cells #[.int .i64 y] 3)).alloc (.cells #[.bool false] 4)) 23 (.slice a zs.length cap)
  simp only [World.size_alloc] at bY bR bS
  have hB0 : Below w.heap.size w ((((w.alloc (.cells #[.int .i64 e, sm, .int .i64 l0, .slice a zs.length cap, st] 64)).alloc (.cells #[.int .i64 y] 3)).alloc (.cells #[.bool false] 4)).alloc (.cells #[.slice a zs.length cap] 23)) :=
    ((((Below.refl _ w).alloc (Nat.le_refl _) _).alloc (by simp) _).alloc (by simp; omega) _).alloc (by simp; omega) _
  have hsz : ((((w.alloc (.cells #[.int .i64 e, sm, .int .i64 l0, .slice a zs.length cap, st] 64)).alloc (.cells #[.int .i64 y] 3)).alloc (.cells #[.bool false] 4)).alloc (.cells #[.slice a zs.length cap] 23)).heap.size = w.heap.size + 4 := by simp
  obtain ⟨W0, hW0⟩ : ∃ W0, (((w.alloc (.cells #[.int .i64 e, sm, .int .i64 l0, .slice a zs.length cap, st] 64)).alloc (.cells #[.int .i64 y] 3)).alloc (.cells #[.bool false] 4)).alloc (.cells #[.slice a zs.length cap] 23) = W0 := ⟨_, rfl⟩
  rw [hW0] at bY bR bS hB0 hsz ⊢
  clear hW0
  refine wpIn_rangeFunc_ownH (P := Try.prog) (F := Fence.wide) (n := n) rfl h1 (gf := 72) (lb := #[.pointer (some ⟨w.heap.size + 1 + 1 + 1, 0, none⟩)]) rfl trivial (enters_of Try.func72 (by kernel_rfl) rfl)
    (back_stops Fence.wide (n - 1) trivial rfl (by omega) (w.heap.size + 1 + 1 + 1) (w.heap.size + 4) b off cap zs hreach W0 (by omega) (fun h => Nat.lt_of_lt_of_le (hb h) (by omega)) (by omega) a ha bS.cell (fun j hj i hi => (hB0.cell (p := ⟨b, off + j * 3 + i, none⟩) (hb (by rintro rfl; simp at hj))).trans (hc j hj i hi)))
    belowK_t (belowK_b (by omega)) (Below.refl _ _) (fun _ => rfl)
    (fun pre W => (((∀ p ∈ pre, ¬ hit y p.2) ∧ w.heap.size + 4 ≤ W.heap.size) ∧ Boxed W (w.heap.size + 1) 3 (.int .i64 y) ∧ Boxed W (w.heap.size + 1 + 1) 4 (.bool false)) ∧ Below w.heap.size w W)
    (fun c pre W => (c = .ret ∧ ∃ ini last, pre = ini ++ [last] ∧ (∀ p ∈ ini, ¬ hit y p.2) ∧ hit y last.2 ∧ Boxed W (w.heap.size + 1 + 1) 4 (.bool last.2.2.2)) ∧ Below w.heap.size w W)
    ?hI ?hIx ⟨⟨⟨by simp, by omega⟩, bY, bR⟩, hB0⟩
    (fun x a' W => ∃ Bx, w.heap.size + 4 ≤ Bx ∧ (∀ i v, (rcells x.2)[i]? = some v → W.cell? ⟨Bx, i, none⟩ = some v) ∧ a' = { tmps := #[.agg #[.int .i64 e, sm, .int .i64 l0, .slice a zs.length cap, st], .int .i64 y, .pointer (some ⟨w.heap.size, 0, none⟩), .pointer (some ⟨w.heap.size + 1, 0, none⟩), .pointer (some ⟨w.heap.size + 1 + 1, 0, none⟩), undef, .pointer (some ⟨Bx, 0, none⟩), .pointer (some ⟨w.heap.size, 0, none⟩), .pointer (some ⟨w.heap.size, 3, none⟩), .slice a zs.length cap, .func (.func 72) #[] #[.pointer (some ⟨w.heap.size + 1 + 1 + 1, 0, none⟩)], .int .i64 x.1, rv x.2, undef, undef, undef, undef, undef, undef, undef, undef, undef], defers := [] })
    ?hAx ?assign ?body ?done ?stop
  case hI => exact OwnFrom.and (OwnFrom.and (fun s A B row hs hg hr => ⟨hs.1, Nat.le_trans hs.2 hg.size⟩) (OwnFrom.and (Own.from (boxed_own _ _ _) _) (Own.from (boxed_own _ _ _) _))) (ownFrom_below (Nat.le_refl _) (by omega))
  case hIx =>
    exact fun c => OwnFrom.and (Own.from (fun s A B row hs hg hr => by
      obtain ⟨hc, ini, last, e1, e2, e3, e4⟩ := hs
      exact ⟨hc, ini, last, e1, e2, e3, boxed_own _ _ (fun (_ : Unit) => Value.bool last.2.2.2) () A B row e4 hg hr⟩) _) (ownFrom_below (Nat.le_refl _) (by omega))
  case hAx =>
    exact fun x a' _ X Y row hs hg hr => by
      obtain ⟨Bx, h1, h2, h3⟩ := hs
      exact ⟨Bx, h1, fun i v hi => cell_kept (h2 i v hi) hg (fun r e => (hr r e).2), h3⟩
  case assign =>
    rintro l pre x W K ⟨⟨⟨hp, hs1⟩, bY1, bR1⟩, hB1⟩ hK
    obtain ⟨xi, ev, rest, yes⟩ := x
    simp only [rv] at hK ⊢
    gi_wp2
    exact hK _ _ ((KeepsOthers.alloc _ _).from _) ((Below.refl _ W).alloc hs1 _) ⟨⟨⟨hp, by simp; omega⟩, bY1.alloc _, bR1.alloc _⟩, hB1.alloc hB1.size _⟩
      ⟨W.heap.size, hs1, fun i v hi => by
        have hlt : i < 3 := by have := (List.getElem?_eq_some_iff.1 hi).1; simpa [rcells] using this
        have hh := heap_new W (.cells #[Value.int .i64 ev, Value.int .i64 rest, Value.bool yes] 61)
        simp only [World.cell?, hh, Option.isSome_none, Bool.false_eq_true, if_false]
        simpa [rcells] using hi, rfl⟩
  case body =>
    rintro l pre x a' W hl ⟨r, hr⟩ ⟨⟨⟨hp, hs1⟩, bY1, bR1⟩, hB1⟩ ⟨Bx, hBx, hcx, rfl⟩ hlt
    obtain ⟨xi, ev, rest, yes⟩ := x
    have c0 := hcx 0 _ rfl
    have c1 := hcx 1 _ rfl
    have c2 := hcx 2 _ rfl
    clear hcx
    dsimp only at c0 c1 c2
    simp only [rv]
    have cY := bY1.cell
    have hBlt : Bx < W.heap.size := World.block_lt_of_cell? W ⟨Bx, 0, none⟩ c0
    have hd : 1 ≤ n - 1 - 1 := by omega
    have hmx : Try.prog.follows .mixedOrders = true := mix
    gi_wp2
    gi_region_with_o (refine ⟨trivial, ?_⟩; gi_at_call 37; refine (CallsIn.inRound l (cmod_in y ev (n - 1 - 1 - 1) _)).mono ?_; rintro e w' ⟨rfl, hext⟩; have c1' : w'.cell? ⟨Bx, 1, none⟩ = some (.int .i64 rest) := (hext.cell (p := ⟨Bx, 1, none⟩) hBlt).trans c1; have c2' : w'.cell? ⟨Bx, 2, none⟩ = some (.bool yes) := (hext.cell (p := ⟨Bx, 2, none⟩) hBlt).trans c2; have he : Ext W w' := Ext.tr (b := W.drew) ⟨rfl, rfl, rfl, Nat.le_refl _, fun _ _ => rfl⟩ hext; have bR2 := Boxed.ext bR1 he; have cR2 := bR2.cell; have fR2 := bR2.frozen)
    all_goals gi_wp2
    all_goals first
      | exact ⟨((keepsOthers_ext he).trans (KeepsOthers.setCell _ _ _)).from _, ⟨rfl, pre, (xi, ev, rest, yes), rfl, hp, eq_of_beq (show (modv y ev == rest) = true by assumption), bR2.set _⟩, (hB1.trans (Below.mono he hB1.size)).setCell (p := ⟨w.heap.size + 1 + 1, 0, none⟩) (by dsimp only; omega) _⟩
      | exact ⟨(keepsOthers_ext he).from _, Below.mono he hs1, ⟨⟨fun p hp' => (List.mem_append.1 hp').elim (hp p) (fun e => by
          have h : (modv y ev == rest) = false := by assumption
          simp only [List.mem_singleton] at e
          subst e
          exact beq_eq_false_iff_ne.1 h), Nat.le_trans hs1 he.size⟩, Boxed.ext bY1 he, bR2⟩, hB1.trans (Below.mono he hB1.size)⟩
  case done =>
    rintro D ys W hD rfl ⟨⟨⟨hp, hs1⟩, bY1, bR1⟩, hB1⟩ hK
    have cR := bR1.cell
    have fR := bR1.frozen
    gi_wp2
    have hK' := (KeepsOthers.setCell W ⟨w.heap.size + 1 + 1, 0, none⟩ (.bool false)).same D _ hK rfl
    refine ⟨by simp, .inl ⟨_, _, rfl, run_takeDeferred hK', ?_⟩⟩
    have hc5 := cell_kept (World.cell?_setCell_same' W ⟨w.heap.size + 1 + 1, 0, none⟩ (.bool false) (by rw [cR]; rfl)) (grownBy_putObj' _ D (.deferred none)) (fun r e => by cases e; exact ⟨_, hK', rfl⟩)
    refine ⟨.bool false, ?_, .inl ⟨rfl, fun r hr => ?_⟩, (hB1.setCell (p := ⟨w.heap.size + 1 + 1, 0, none⟩) (by dsimp only; omega) _).trans (belowK_b (w := w) (Nat.le_refl _) _ D _ _ (by omega) hK' rfl rfl)⟩
    · simp [results, Try.f52, go_sem, hc5]
    · obtain ⟨i, hi, rfl⟩ := List.getElem_of_mem hr
      have := hp (fromEnd zs (zs.length - 1 - i)) (by simp only [upto, List.mem_map, List.mem_range]; exact ⟨_, by omega, rfl⟩)
      simpa [fromEnd, show zs.length - 1 - (zs.length - 1 - i) = i by omega, hi] using this
  case stop =>
    rintro D c pre W hD ⟨k, hk, rfl⟩ ⟨⟨rfl, ini, last, e1, e2, e3, bR1⟩, hB1⟩ hK
    gi_wp2
    refine ⟨by simp, .inl ⟨_, _, rfl, run_takeDeferred hK, ?_⟩⟩
    have hc5 := cell_kept bR1.cell (grownBy_putObj' _ D (.deferred none)) (fun r e => by cases e; exact ⟨_, hK, rfl⟩)
    obtain ⟨k', rfl⟩ : ∃ k', k = k' + 1 := by
      cases k with
      | zero => simp [upto] at e1
      | succ k' => exact ⟨k', rfl⟩
    rw [upto_succ] at e1
    obtain ⟨rfl, e5⟩ := List.append_inj' e1 rfl
    obtain rfl : fromEnd zs k' = last := by simpa using e5
    refine ⟨.bool (fromEnd zs k').2.2.2, ?_, .inr ⟨k', by omega, rfl, e3, fun j hj => e2 (fromEnd zs j) (by simp only [upto, List.mem_map, List.mem_range]; exact ⟨j, hj, rfl⟩)⟩, hB1.trans (belowK_b (w := w) (Nat.le_refl _) W D _ _ (by omega) hK rfl rfl)⟩
    simp [results, Try.f52, go_sem, hc5]
end Go.Proofs.Ytpbnjoopgignoaa
