/- Plain lemmas of our own, no statement of the seat: slices.Values of integers; slices.AppendSeq, Collect, Sorted over it; number.Rising. -/
import Derived.RangeFuncBox
import Derived.RangeFuncLeaves
import Derived.Shelf.Abstract
import Derived.WalkKit
import Derived.OwnWalkIn
import Derived.TacticsInMore
import Derived.LoopNIn
import Derived.LoopIn
import Derived.Maps.AppendAt
import Derived.Shelf.SlGeneric
import Derived.Shelf.SortM.Plain
import Derived.Shelf.SortM.SortNone
import Derived.Ground.SlgmProg
import Derived.Shelf.SlicesG.CompactI
import Derived.Shelf.SlicesG.SearchI
import Derived.Ground.SlgnProg
import Derived.Sort.OwnSortedInts
import Derived.Shelf.RegionOpen
import Derived.Test.YtlakekoekilbaaaNp
import Derived.Test.YtlakekoekilbaaaNa
namespace Go.Proofs.Ytlakekoekilbaaa
set_option linter.unusedSimpArgs false
set_option linter.unusedVariables false
open Go.RowKit Go.Shelf Go.Sort Go.Proofs.Ytlakekoekilbaaa.Vc
attribute [local go_sem] Oper.semAt_some

def Try.sortA_ren : Go.Shelf.Ren := ⟨fun | 5 => 42 | 8 => 50 | 7 => 49 | 19 => 61 | 20 => 62 | 10 => 53 | 11 => 54 | 12 => 55 | 13 => 56 | 14 => 57 | 15 => 58 | 16 => 44 | 17 => 59 | 18 => 60 | 30 => 64 | 31 => 65 | 32 => 66 | 33 => 67 | 34 => 68 | 35 => 51 | 40 => 69 | n => n, fun | 23 => 22 | 25 => 3 | 3 => 3 | 32 => 60 | 22 => 22 | 0 => 0 | 44 => 43 | 46 => 47 | 4 => 4 | 36 => 70 | 35 => 69 | 41 => 54 | 5 => 5 | 9 => 9 | 53 => 79 | 57 => 83 | 63 => 85 | 64 => 86 | n => n, fun | n => n⟩
theorem Try.sortA : Go.Proofs.SlLaysM.n5 Try.prog Try.sortA_ren := {
  mixed := by kernel_rfl
  f5 := ⟨Try.f42.name, by decide, Try.func42.trans (congrArg some (by kernel_rfl))⟩
  f7 := ⟨Try.f49.name, by decide, Try.func49.trans (congrArg some (by kernel_rfl))⟩
  f8 := Try.func50.trans (congrArg some (by kernel_rfl))
  f10 := ⟨Try.f53.name, by decide, Try.func53.trans (congrArg some (by kernel_rfl))⟩
  f11 := ⟨Try.f54.name, by decide, Try.func54.trans (congrArg some (by kernel_rfl))⟩
  f12 := ⟨Try.f55.name, by decide, Try.func55.trans (congrArg some (by kernel_rfl))⟩
  f13 := ⟨Try.f56.name, by decide, Try.func56.trans (congrArg some (by kernel_rfl))⟩
  f14 := ⟨Try.f57.name, by decide, Try.func57.trans (congrArg some (by kernel_rfl))⟩
  f15 := ⟨Try.f58.name, by decide, Try.func58.trans (congrArg some (by kernel_rfl))⟩
  f16 := ⟨Try.f44.name, by decide, Try.func44.trans (congrArg some (by kernel_rfl))⟩
  f17 := ⟨Try.f59.name, by decide, Try.func59.trans (congrArg some (by kernel_rfl))⟩
  f18 := ⟨Try.f60.name, by decide, Try.func60.trans (congrArg some (by kernel_rfl))⟩
  f19 := Try.func61.trans (congrArg some (by kernel_rfl))
  f20 := Try.func62.trans (congrArg some (by kernel_rfl))
  f30 := ⟨Try.f64.name, by decide, Try.func64.trans (congrArg some (by kernel_rfl))⟩
  f31 := Try.func65.trans (congrArg some (by kernel_rfl))
  f32 := Try.func66.trans (congrArg some (by kernel_rfl))
  f33 := ⟨Try.f67.name, by decide, Try.func67.trans (congrArg some (by kernel_rfl))⟩
  f34 := ⟨Try.f68.name, by decide, Try.func68.trans (congrArg some (by kernel_rfl))⟩
  f35 := ⟨Try.f51.name, by decide, Try.func51.trans (congrArg some (by kernel_rfl))⟩
  f40 := ⟨Try.f69.name, by decide, Try.func69.trans (congrArg some (by kernel_rfl))⟩
  t0 := Try.underlying0
  a0 := Try.isAgg0
  z0 := Try.sizeOf0
  v0 := Try.zeroValue0
  t3 := Try.underlying3
  a3 := Try.isAgg3
  z3 := Try.sizeOf3
  v3 := Try.zeroValue3
  t4 := Try.underlying4
  a4 := Try.isAgg4
  z4 := Try.sizeOf4
  v4 := Try.zeroValue4
  t5 := Try.underlying5
  a5 := Try.isAgg5
  z5 := Try.sizeOf5
  v5 := Try.zeroValue5
  t9 := Try.underlying9
  a9 := Try.isAgg9
  z9 := Try.sizeOf9
  v9 := Try.zeroValue9
  t22 := Try.underlying22
  a22 := Try.isAgg22
  z22 := Try.sizeOf22
  v22 := Try.zeroValue22
  t23 := Try.underlying22
  a23 := Try.isAgg22
  z23 := Try.sizeOf22
  v23 := Try.zeroValue22
  t25 := Try.underlying3
  a25 := Try.isAgg3
  z25 := Try.sizeOf3
  v25 := Try.zeroValue3
  t32 := Try.underlying60
  a32 := Try.isAgg60
  z32 := Try.sizeOf60
  v32 := Try.zeroValue60
  t35 := Try.underlying69
  a35 := Try.isAgg69
  z35 := Try.sizeOf69
  v35 := Try.zeroValue69
  t36 := Try.underlying70
  a36 := Try.isAgg70
  z36 := Try.sizeOf70
  v36 := Try.zeroValue70
  t41 := Try.underlying54
  a41 := Try.isAgg54
  z41 := Try.sizeOf54
  v41 := Try.zeroValue54
  t44 := Try.underlying43
  a44 := Try.isAgg43
  z44 := Try.sizeOf43
  v44 := Try.zeroValue43
  t46 := Try.underlying47
  a46 := Try.isAgg47
  z46 := Try.sizeOf47
  v46 := Try.zeroValue47
  t53 := Try.underlying79
  a53 := Try.isAgg79
  z53 := Try.sizeOf79
  v53 := Try.zeroValue79
  t57 := Try.underlying83
  a57 := Try.isAgg83
  z57 := Try.sizeOf83
  v57 := Try.zeroValue83
  t63 := Try.underlying85
  a63 := Try.isAgg85
  z63 := Try.sizeOf85
  v63 := Try.zeroValue85
  t64 := Try.underlying86
  a64 := Try.isAgg86
  z64 := Try.sizeOf86
  v64 := Try.zeroValue86 }
def Try.compactA_ren : Go.Shelf.Ren := ⟨fun | 43 => 32 | n => n, fun | 22 => 22 | 23 => 3 | 3 => 3 | 4 => 4 | 0 => 0 | n => n, fun | n => n⟩
theorem Try.compactA : Go.Proofs.SlLaysN.n43 Try.prog Try.compactA_ren := {
  mixed := by kernel_rfl
  f43 := ⟨Try.f32.name, by decide, Try.func32.trans (congrArg some (by kernel_rfl))⟩
  t0 := Try.underlying0
  a0 := Try.isAgg0
  z0 := Try.sizeOf0
  v0 := Try.zeroValue0
  t3 := Try.underlying3
  a3 := Try.isAgg3
  z3 := Try.sizeOf3
  v3 := Try.zeroValue3
  t4 := Try.underlying4
  a4 := Try.isAgg4
  z4 := Try.sizeOf4
  v4 := Try.zeroValue4
  t22 := Try.underlying22
  a22 := Try.isAgg22
  z22 := Try.sizeOf22
  v22 := Try.zeroValue22
  t23 := Try.underlying3
  a23 := Try.isAgg3
  z23 := Try.sizeOf3
  v23 := Try.zeroValue3
  i23 := by kernel_rfl }
def Try.searchA_ren : Go.Shelf.Ren := ⟨fun | 49 => 38 | 59 => 44 | 60 => 45 | 68 => 51 | n => n, fun | 22 => 22 | 23 => 3 | 3 => 3 | 4 => 4 | 51 => 60 | 0 => 0 | n => n, fun | n => n⟩
theorem Try.searchA : Go.Proofs.SlLaysN.n49 Try.prog Try.searchA_ren := {
  mixed := by kernel_rfl
  f49 := ⟨Try.f38.name, by decide, Try.func38.trans (congrArg some (by kernel_rfl))⟩
  f59 := ⟨Try.f44.name, by decide, Try.func44.trans (congrArg some (by kernel_rfl))⟩
  f60 := ⟨Try.f45.name, by decide, Try.func45.trans (congrArg some (by kernel_rfl))⟩
  f68 := ⟨Try.f51.name, by decide, Try.func51.trans (congrArg some (by kernel_rfl))⟩
  t0 := Try.underlying0
  a0 := Try.isAgg0
  z0 := Try.sizeOf0
  v0 := Try.zeroValue0
  t3 := Try.underlying3
  a3 := Try.isAgg3
  z3 := Try.sizeOf3
  v3 := Try.zeroValue3
  t4 := Try.underlying4
  a4 := Try.isAgg4
  z4 := Try.sizeOf4
  v4 := Try.zeroValue4
  t22 := Try.underlying22
  a22 := Try.isAgg22
  z22 := Try.sizeOf22
  v22 := Try.zeroValue22
  t23 := Try.underlying3
  a23 := Try.isAgg3
  z23 := Try.sizeOf3
  v23 := Try.zeroValue3
  t51 := Try.underlying60
  a51 := Try.isAgg60
  z51 := Try.sizeOf60
  v51 := Try.zeroValue60 }
def upto {α : Type} (f : Nat → α) (k : Nat) : List α := (List.range k).map f
theorem upto_succ {α : Type} (f : Nat → α) (k : Nat) : upto f (k + 1) = upto f k ++ [f k] := by simp [upto, List.range_succ]
theorem upto_length {α : Type} (f : Nat → α) (k : Nat) : (upto f k).length = k := by simp [upto]
theorem upto_all (zs : List Int) : upto (fun j => zs[j]?.getD 0) zs.length = zs := by
  apply List.ext_getElem
  · simp [upto]
  · intro i h1 h2
    simp [upto, h2]
theorem upto_take (zs : List Int) {k : Nat} (hk : k ≤ zs.length) : upto (fun j => zs[j]?.getD 0) k = zs.take k := by
  apply List.ext_getElem
  · simp [upto, hk]
  · intro i h1 h2
    have : i < zs.length := by simp [upto] at h1; omega
    simp [upto, this]

set_option maxRecDepth 100000 in
set_option maxHeartbeats 2000000 in
theorem values1_in (F : Fence) (n : Nat) (h7 : F.fn 43) (hro : F.round = none) (hn : 1 ≤ n) (l Bs n₀ b off len cap : Nat) (zs : List Int) (hreach : len * 8 ≤ 140737488351232) (hb : b < n₀) (J Jx : List Int → World → Prop)
    (hY : ∀ pre x W, J pre W → pre.length < len → YieldAt F (n - 1) Try.prog l #[.int .i64 x] W fun e W' =>
      (e = .returned (.bool true) ∧ J (pre ++ [x]) W' ∧ Below n₀ W W') ∨ (e = .returned (.bool false) ∧ Jx (pre ++ [x]) W'))
    (W : World) (hBs : W.cell? ⟨Bs, 0, none⟩ = some (.slice (some ⟨b, off, none⟩) len cap)) (hc : ∀ j, j < len → W.cell? ⟨b, off + j, none⟩ = some (.int .i64 (zs[j]?.getD 0))) (h0 : J [] W) :
    CallsIn F n Try.prog 43 #[.func (.yield l) #[] #[], .pointer (some ⟨Bs, 0, none⟩)] W fun e W' => (∃ v, e = .returned v) ∧
      ((∃ ys, ys = upto (fun j => zs[j]?.getD 0) len ∧ J ys W') ∨ (∃ pre, (∃ k, k ≤ len ∧ pre = upto (fun j => zs[j]?.getD 0) k) ∧ Jx pre W')) := by
  refine callsIn_of_wp Try.func43 rfl h7 ?_ hro
  simp only [Try.ntmps43, List.size_toArray, List.length_cons, List.length_nil, Nat.reduceAdd, Nat.reduceSub, Array.replicate_succ, Array.replicate_zero, List.push_toArray, List.append_toArray, List.nil_append, List.cons_append]
  gi_wp2
  gi_loopw [7] (fun i wr => ∃ k : Nat, k ≤ len ∧ i = .int .i64 k ∧ J (upto (fun j => zs[j]?.getD 0) k) wr ∧ Below n₀ W wr)
    (fun i _ => len - (intOf i).toNat)
  case atStart => exact ⟨0, Nat.zero_le _, rfl, h0, Below.refl _ _⟩
  case round =>
    obtain ⟨k, hk, rfl, hJs, hnx⟩ := hrel
    have hcx : k < len → wr.cell? ⟨b, off + k, none⟩ = some (.int .i64 (zs[k]?.getD 0)) := fun h => (hnx.cell (p := ⟨b, off + k, none⟩) hb).trans (hc k h)
    by_cases hlt : k < len
    · obtain ⟨fn, tmps, assign, body, hy, hR⟩ := hY _ (zs[k]?.getD 0) wr hJs (by rw [upto_length]; exact hlt)
      have hcx' := hcx hlt
      gi_wp2
      refine hR.mono ?_
      rintro e W3 (⟨rfl, hJ3, hk3⟩ | ⟨rfl, hJx3⟩)
      · gi_wp2
        go_roundw
        case rel => exact ⟨k + 1, by omega, by simp, by rw [upto_succ]; exact hJ3, hnx.trans hk3⟩
        case measure => simp [intOf]; omega
      · gi_wp2
        refine bodyPost_ret (results_none rfl _ _ _) rfl ?_
        exact ⟨⟨_, rfl⟩, .inr ⟨_, ⟨k + 1, by omega, (upto_succ _ _).symm⟩, hJx3⟩⟩
    · obtain rfl : k = len := by omega
      gi_wp2
      go_end0
      exact ⟨⟨_, rfl⟩, .inl ⟨_, rfl, hJs⟩⟩
set_option maxRecDepth 100000 in
set_option maxHeartbeats 1000000 in
theorem values1_nil_in (F : Fence) (n : Nat) (h7 : F.fn 43) (hro : F.round = none) (l Bs : Nat) (cap : Nat) (a : Option Addr) (J : List Int → World → Prop) (W : World) (hBs : W.cell? ⟨Bs, 0, none⟩ = some (.slice a 0 cap)) (h0 : J [] W) :
    CallsIn F n Try.prog 43 #[.func (.yield l) #[] #[], .pointer (some ⟨Bs, 0, none⟩)] W fun e W' => (∃ v, e = .returned v) ∧ J [] W' := by
  refine callsIn_of_wp Try.func43 rfl h7 ?_ hro
  simp only [Try.ntmps43, List.size_toArray, List.length_cons, List.length_nil, Nat.reduceAdd, Nat.reduceSub, Array.replicate_succ, Array.replicate_zero, List.push_toArray, List.append_toArray, List.nil_append, List.cons_append]
  gi_wp2
  gi_loopw [7] (fun i wr => i = .int .i64 0 ∧ J [] wr) (fun _ _ => 0)
  case atStart => exact ⟨rfl, h0⟩
  case round =>
    obtain ⟨rfl, hJs⟩ := hrel
    gi_wp2
    go_end0
    exact ⟨⟨_, rfl⟩, hJs⟩
set_option maxHeartbeats 1000000 in
theorem values_in (F : Fence) (n : Nat) (h5 : F.fn 34) (hro : F.round = none) (a : Option Addr) (len cap : Nat) (w : World) :
    CallsIn F n Try.prog 34 #[.slice a len cap] w fun e w' => e = .returned (.func (.func 43) #[] #[.pointer (some ⟨w.heap.size, 0, none⟩)]) ∧ w' = w.alloc (.cells #[.slice a len cap] 22) := by
  refine callsIn_of_wp Try.func34 rfl h5 ?_ hro
  simp only [Try.ntmps34, List.size_toArray, List.length_cons, List.length_nil, Nat.reduceAdd, Nat.reduceSub, Array.replicate_succ, Array.replicate_zero, List.push_toArray, List.append_toArray, List.nil_append, List.cons_append]
  gi_wp2
  go_ret
  exact ⟨rfl, rfl⟩
/-- The slice value sv holds the integers zs, in a block below n₀; or there are none. -/
def HoldsZ (n₀ : Nat) (W : World) (sv : Value) (zs : List Int) : Prop :=
  ((∃ a cap, sv = .slice a 0 cap) ∧ zs = []) ∨ ∃ b off cap, sv = .slice (some ⟨b, off, none⟩) zs.length cap ∧ b < n₀ ∧ ∀ j, j < zs.length → W.cell? ⟨b, off + j, none⟩ = some (.int .i64 (zs[j]?.getD 0))
theorem HoldsZ.below {n₀ : Nat} {A B : World} (h : Below n₀ A B) {sv : Value} {zs : List Int} : HoldsZ n₀ A sv zs → HoldsZ n₀ B sv zs
  | .inl e => .inl e
  | .inr ⟨b, off, cap, e, hb, hc⟩ => .inr ⟨b, off, cap, e, hb, fun j hj => (h.cell (p := ⟨b, off + j, none⟩) hb).trans (hc j hj)⟩
theorem HoldsZ.wide {n n₀ : Nat} (hn : n ≤ n₀) {A : World} {sv : Value} {zs : List Int} : HoldsZ n A sv zs → HoldsZ n₀ A sv zs
  | .inl e => .inl e
  | .inr ⟨b, off, cap, e, hb, hc⟩ => .inr ⟨b, off, cap, e, Nat.lt_of_lt_of_le hb hn, hc⟩
theorem values_stops (F : Fence) (n : Nat) (h7 : F.fn 43) (hro : F.round = none) (hn : 1 ≤ n) (Bs n₀ : Nat) (sv : Value) (zs : List Int) (hreach : zs.length * 8 ≤ 140737488351232) (w : World) (hBs : Bs < w.heap.size) (hn₀ : n₀ ≤ w.heap.size)
    (hc : w.cell? ⟨Bs, 0, none⟩ = some sv) (hI : HoldsZ n₀ w sv zs) :
    SeqStopsK F n Try.prog 43 #[.pointer (some ⟨Bs, 0, none⟩)] (fun x : Int => #[Value.int .i64 x]) (Below n₀) (fun ys => ys = zs) (fun pre => pre <+: zs) zs.length w := fun l J Jx W hW _ _ hY h0 => by
  have hc' := (hW.cell (p := ⟨Bs, 0, none⟩) hBs).trans hc
  rcases hI.below (hW.mono hn₀) with ⟨⟨a, cap, rfl⟩, rfl⟩ | ⟨b, off, cap, rfl, hb, hcs⟩
  · exact (values1_nil_in F n h7 hro l Bs cap a J W hc' h0).mono fun e W' ⟨he, hj⟩ => ⟨he, .inl ⟨_, rfl, hj⟩⟩
  · refine (values1_in F n h7 hro hn l Bs n₀ b off zs.length cap zs hreach hb J Jx hY W hc' hcs h0).mono ?_
    rintro e W' ⟨he, ⟨ys, rfl, hj⟩ | ⟨pre, ⟨k, hk, rfl⟩, hj⟩⟩
    · exact ⟨he, .inl ⟨_, upto_all zs, hj⟩⟩
    · exact ⟨he, .inr ⟨_, by rw [upto_take zs hk]; exact List.take_prefix _ _, hj⟩⟩
theorem Try.info3 : (Try.prog.info? 3).map (fun i => (i.zero, i.size, i.bytes)) = some (some (.int .i64 0), 1, 8) := by kernel_rfl
set_option maxRecDepth 100000 in
set_option maxHeartbeats 2000000 in
theorem appendSeq_in (F : Fence) (n : Nat) (h3 : F.fn 48) (h5 : F.fn 43) (hro : F.round = none) (hn : 3 ≤ n) (sv : Value) (Bs : Nat) (zs : List Int) (hlen : zs.length ≤ maxLen) (hbytes : zs.length * 8 ≤ 140737488351232) (w : World)
    (hBs : Bs < w.heap.size) (hc : w.cell? ⟨Bs, 0, none⟩ = some sv) (hI : HoldsZ w.heap.size w sv zs) :
    CallsIn F n Try.prog 48 #[.slice none 0 0, .func (.func 43) #[] #[.pointer (some ⟨Bs, 0, none⟩)]] w fun e W' => ∃ v, e = .returned v ∧ W'.ownsRow w.heap.size 3 1 v zs.length (zs.map (Value.int .i64)) ∧ (v = .slice none 0 0 ↔ zs = []) ∧ Below w.heap.size w W' := by
  have h1 : 1 ≤ n := by omega
  obtain ⟨i0, hi, hz0, hz1, hz2⟩ := info_parts Try.info3
  refine callsIn_of_wp_marks Try.func48 rfl h3 ?_ hro
  simp only [Try.ntmps48, List.size_toArray, List.length_cons, List.length_nil, Nat.reduceAdd, Nat.reduceSub, Array.replicate_succ, Array.replicate_zero, List.push_toArray, List.append_toArray, List.nil_append, List.cons_append]
  gi_wp2
  have bO := Boxed.new w 22 (.slice none 0 0)
  have hB0 : Below w.heap.size w (w.alloc (.cells #[.slice none 0 0] 22)) := (Below.refl _ w).alloc (Nat.le_refl _) _
  refine wpIn_rangeFunc_ownG hro h1 (gf := 43) (lb := #[.pointer (some ⟨Bs, 0, none⟩)]) rfl h5 (enters_of Try.func43 (by kernel_rfl) rfl)
    (values_stops F (n - 1) h5 hro (by omega) Bs w.heap.size sv zs hbytes _ (by simp; omega) (by simp) ((hB0.cell (p := ⟨Bs, 0, none⟩) hBs).trans hc) (hI.below hB0)) belowK_t (belowK_b (by simp)) (Below.refl _ _) (fun _ => rfl)
    (fun pre W => (∃ v, Boxed W w.heap.size 22 v ∧ W.ownsRow w.heap.size 3 1 v pre.length (pre.map (Value.int .i64)) ∧ (v = .slice none 0 0 ↔ pre = [])) ∧ Below w.heap.size w W)
    (fun _ _ _ => False)
    (OwnFrom.and (Own.from (holdsRow_own w.heap.size w.heap.size 22 3 1 (fun pre : List Int => pre.length) (fun pre => pre.map (Value.int .i64)) (fun pre v => v = .slice none 0 0 ↔ pre = [])) _) (ownFrom_below (Nat.le_refl _) (by simp)))
    (fun _ _ _ _ _ hs _ _ => hs)
    ⟨⟨_, bO, World.ownsRow_nil _ _ _ _, by simp⟩, hB0⟩
    (fun x => { tmps := #[.slice none 0 0, .func (.func 43) #[] #[.pointer (some ⟨Bs, 0, none⟩)], .pointer (some ⟨w.heap.size, 0, none⟩), undef, .slice none 0 0, .int .i64 x, .func (.func 43) #[] #[.pointer (some ⟨Bs, 0, none⟩)], .int .i64 x, undef, undef, undef, undef, undef], defers := [] }) ?assign ?body ?done ?stop
  case assign =>
    intro l x W K hK
    gi_wp2
    exact hK
  case body =>
    rintro l pre x W ⟨⟨v, hv, hrow, hnil⟩, hB⟩ hlt
    have hc := hv.cell
    gi_wp2_with (gi_at_builtin; refine wpListIn_append_own _ rfl _ _ 22 rfl w.heap.size 3 i0 (.int .i64 0) 1 8 Try.underlying22 hi hz0 hz1 hz2 rfl (by decide) _ _ _ rfl (hrow.alloc _) ⟨W.heap.size, 0, none⟩ 1 1 [.int .i64 x] rfl rfl (cell_one_new _ _ _) (by simp [Value.oneCell']) (by omega) (by omega) (by have := hB.size; simp; omega) ?_; intro v' w1 hown' hgrow _; obtain ⟨g', cap', rfl⟩ := ownsRow_succ hown'; obtain ⟨hv1, hv2, hr2, hk2, hb2⟩ := hv.appended (by decide) hrow hB.size (Nat.le_refl _) hown' hgrow; have hc1 := hv1.cell; have hf1 := hv1.frozen)
    exact ⟨hk2.from _, hb2, ⟨_, hv2, by simpa using hr2, by simp⟩, hB.trans hb2⟩
  case done =>
    rintro D ys W hD rfl ⟨⟨v, hv, hrow, hnil⟩, hB⟩ hK
    have hc := hv.cell
    gi_wp2
    refine ⟨by simp, .inl ⟨_, _, rfl, run_takeDeferred hK, ?_⟩⟩
    exact ⟨_, results_tmp rfl _ _ _, v, rfl, ownsRow_putObj hrow _ hK rfl, hnil, hB.trans (belowK_b (w := w) (Nat.le_refl _) W D _ _ (by simp at hD; omega) hK rfl rfl)⟩
  case stop =>
    rintro D c pre W _ _ h _
    exact h.elim
set_option maxHeartbeats 1000000 in
theorem collect_in (F : Fence) (n : Nat) (h3 : F.fn 41) (h4 : F.fn 48) (h5 : F.fn 43) (hro : F.round = none) (hn : 4 ≤ n) (sv : Value) (Bs : Nat) (zs : List Int) (hlen : zs.length ≤ maxLen) (hbytes : zs.length * 8 ≤ 140737488351232) (w : World)
    (hBs : Bs < w.heap.size) (hc : w.cell? ⟨Bs, 0, none⟩ = some sv) (hI : HoldsZ w.heap.size w sv zs) :
    CallsIn F n Try.prog 41 #[.func (.func 43) #[] #[.pointer (some ⟨Bs, 0, none⟩)]] w fun e W' => ∃ v, e = .returned v ∧ W'.ownsRow w.heap.size 3 1 v zs.length (zs.map (Value.int .i64)) ∧ (v = .slice none 0 0 ↔ zs = []) ∧ Below w.heap.size w W' := by
  have h1 : 1 ≤ n := by omega
  refine callsIn_of_wp Try.func41 rfl h3 ?_ hro
  simp only [Try.ntmps41, List.size_toArray, List.length_cons, List.length_nil, Nat.reduceAdd, Nat.reduceSub, Array.replicate_succ, Array.replicate_zero, List.push_toArray, List.append_toArray, List.nil_append, List.cons_append]
  have hfS := h4
  gi_wp2_with (gi_at_call 48; refine (appendSeq_in F (n - 1) h4 h5 hro (by omega) sv Bs zs hlen hbytes _ hBs hc hI).mono ?_; rintro e w' ⟨v, rfl, hrow, hnil, hB⟩)
  go_ret
  exact ⟨_, rfl, hrow, hnil, hB⟩
set_option maxHeartbeats 2000000 in
theorem sorted_in (n : Nat) (hn : 5 ≤ n) (sv : Value) (Bs : Nat) (zs : List Int) (hlen : zs.length ≤ maxLen) (hbytes : zs.length * 8 ≤ 140737488351232) (w : World)
    (hBs : Bs < w.heap.size) (hc : w.cell? ⟨Bs, 0, none⟩ = some sv) (hI : HoldsZ w.heap.size w sv zs) :
    CallsIn Fence.wide n Try.prog 33 #[.func (.func 43) #[] #[.pointer (some ⟨Bs, 0, none⟩)]] w fun e W' => ∃ v, e = .returned v ∧ W'.ownsRow w.heap.size 3 1 v zs.length ((zs.mergeSort fun x y => decide (x ≤ y)).map (Value.int .i64)) ∧ (v = .slice none 0 0 ↔ zs = []) ∧ Below w.heap.size w W' := by
  have h1 : 1 ≤ n := by omega
  have hfC : Fence.wide.fn 41 := trivial
  have hfS : Fence.wide.fn 42 := trivial
  refine callsIn_of_wp Try.func33 rfl trivial ?_ rfl
  simp only [Try.ntmps33, List.size_toArray, List.length_cons, List.length_nil, Nat.reduceAdd, Nat.reduceSub, Array.replicate_succ, Array.replicate_zero, List.push_toArray, List.append_toArray, List.nil_append, List.cons_append]
  gi_wp2_with (gi_at_call 41; refine (collect_in Fence.wide (n - 1) trivial trivial trivial rfl (by omega) sv Bs zs hlen hbytes _ hBs hc hI).mono ?_; rintro e W ⟨v, rfl, hrow, hnil, hb⟩)
  rcases hrow.2 with ⟨rfl, hz⟩ | ⟨gb, cap, cur, rfl, hbase, hgb, r1, r2, r3, r4⟩
  · have hss : zs = [] := List.eq_nil_of_length_eq_zero hz
    subst hss
    gi_wp2_with (gi_at_call 42; refine (callsIn_wide.2 (AnyM.slices_Sort_int_none Try.sortA none 0 W)).mono ?_; rintro e w' ⟨rfl, rfl⟩)
    go_ret
    exact ⟨.slice none 0 0, rfl, by simpa using hrow, by simp, hb⟩
  · have hH : Holds (Value.int .i64) W gb 0 zs.toArray := holds_of_blockI hgb (by simpa using r4)
    have hgl : gb < W.heap.size := (Array.getElem?_eq_some_iff.1 hgb).1
    have hsz : zs.length < 4611686018427387904 := by unfold maxLen at hlen; omega
    have cS := AnyM.slices_Sort_int Try.sortA gb 0 cap zs W hH hgl hsz
    gi_wp2_with (gi_at_call 42; refine (callsIn_wide.2 cS).mono ?_; rintro e w' ⟨rfl, nn, os, rfl⟩)
    go_ret
    exact ⟨_, rfl, ownsRow_sortedI (by simp) hbase hgb r1 r2 r3, hnil, hb.grown (grownBy_sortedI _) hb.size (fun j hj => by cases hj; exact hbase)⟩
set_option maxHeartbeats 2000000 in
/-- number.Rising: the different elements in increasing order, in new memory. -/
theorem rising_in (n : Nat) (hn : 6 ≤ n) (a : Option Addr) (cap : Nat) (zs : List Int) (hlen : zs.length ≤ 1099511627776) (w : World) (hI : HoldsZ w.heap.size w (.slice a zs.length cap) zs) :
    CallsIn Fence.wide n Try.prog 24 #[.slice a zs.length cap] w fun e W' => ∃ v, e = .returned v ∧ W'.ownsRow w.heap.size 3 1 v (rising zs).length ((rising zs).map (Value.int .i64)) ∧ Below w.heap.size w W' := by
  have h1 : 1 ≤ n := by omega
  have hV : Fence.wide.fn 34 := trivial
  have hS : Fence.wide.fn 33 := trivial
  have hC : Fence.wide.fn 32 := trivial
  have hml : maxLen = 9223372036854775807 := by decide
  refine callsIn_of_wp Try.func24 rfl trivial ?_ rfl
  simp only [Try.ntmps24, List.size_toArray, List.length_cons, List.length_nil, Nat.reduceAdd, Nat.reduceSub, Array.replicate_succ, Array.replicate_zero, List.push_toArray, List.append_toArray, List.nil_append, List.cons_append]
  have hB0 : Below w.heap.size w (w.alloc (.cells #[.slice a zs.length cap] 22)) := (Below.refl _ w).alloc (Nat.le_refl _) _
  have cS := sorted_in (n - 1) (by omega) (.slice a zs.length cap) w.heap.size zs (by omega) (by omega) (w.alloc (.cells #[.slice a zs.length cap] 22)) (by simp) (by simp) ((hI.below hB0).wide (by simp))
  gi_wp2_with (first
    | (gi_at_call 34; refine (values_in Fence.wide (n - 1) trivial rfl _ _ _ _).mono ?_; rintro e w' ⟨rfl, rfl⟩)
    | (gi_at_call 33; refine cS.mono ?_; rintro e W ⟨v, rfl, hrow, hnil, hb⟩))
  have hb2 : Below w.heap.size w W := hB0.trans (hb.mono (by simp))
  rcases hrow.2 with ⟨rfl, hz⟩ | ⟨gb, cap', cur, rfl, hbase, hgb, r1, r2, r3, r4⟩
  · have hss : zs = [] := List.eq_nil_of_length_eq_zero hz
    subst hss
    gi_wp2_with (gi_at_call 32; refine (callsIn_wide.2 (AnyG.slices_Compact_int_empty Try.compactA none 0 W)).mono ?_; rintro e w' ⟨rfl, rfl⟩)
    go_ret
    exact ⟨.slice none 0 0, rfl, World.ownsRow_nil _ _ _ _, hb2⟩
  · have hl2 : (zs.mergeSort fun x y => decide (x ≤ y)).length = zs.length := by simp
    have hH : Holds (Value.int .i64) W gb 0 (zs.mergeSort fun x y => decide (x ≤ y)).toArray := holds_of_blockI hgb (by rw [hl2]; simpa using r4)
    have cC := AnyG.slices_Compact_int Try.compactA gb 0 cap' _ W hH (by omega) (by omega)
    have hcr : Lib.compact (zs.mergeSort fun x y => decide (x ≤ y)) = rising zs := by rw [← compact_rising]; simp [Lib.compact]
    rw [hcr, hl2] at cC
    have hrl := rising_len zs
    gi_wp2_with (gi_at_call 32; refine (callsIn_wide.2 cC).mono ?_; rintro e w' ⟨rfl, q, rfl⟩)
    go_ret
    refine ⟨_, rfl, ⟨by simp, .inr ⟨gb, cap', putCells (Value.int .i64) 0 (rising zs ++ List.replicate (zs.length - (rising zs).length) 0).toArray cur, rfl, by simp at hbase; omega, ?_, by omega, r2, ?_, ?_⟩⟩, ?_⟩
    · have := heap_sortedI (n := q) (os := #[]) (rising zs ++ List.replicate (zs.length - (rising zs).length) 0).toArray hgb
      rw [grow_empty] at this
      exact this
    · simp [putCells, r3]
    · have h5 := take_putCellsI cur (rising zs ++ List.replicate (zs.length - (rising zs).length) 0) (by simp; omega)
      have h6 := congrArg (List.take (rising zs).length) h5
      rw [List.take_take, Nat.min_eq_left (by simp)] at h6
      rw [Nat.mul_one, h6, ← List.map_take, List.take_append_of_le_length (Nat.le_refl _), List.take_length]
    · have := grownBy_sortedI (w := W) (g := gb) (n := q) (os := #[]) (rising zs ++ List.replicate (zs.length - (rising zs).length) 0).toArray
      rw [grow_empty] at this
      exact hb2.grown this hb2.size (fun j hj => by cases hj; simp at hbase; omega)
/-- A slice of integers, read in the facts. -/
theorem ints_holdsZ {R : RO} {w : World} {v : Value} {xs : List Int} (h : Ints R v xs) (hR : ∀ a v, R a v → w.cell? a = some v) : HoldsZ w.heap.size w v xs := by
  obtain ⟨a, cap, rfl, hc, hf⟩ := h.form
  by_cases hne : xs = []
  · subst hne; exact .inl ⟨⟨_, _, rfl⟩, rfl⟩
  · have h0 : 0 < xs.length := List.length_pos_iff.2 hne
    obtain ⟨ad, rfl, hR0⟩ := hf 0 h0
    have hc0 := hR _ _ hR0
    have hsp : ad.spot = none := by
      have e : ad.add 0 = ad := by simp [Addr.add]
      rw [e] at hc0
      cases hs : ad.spot with
      | none => rfl
      | some x =>
        exfalso
        unfold World.cell? at hc0
        simp only [hs, Option.isSome_some, if_true] at hc0
        split at hc0
        · cases hc0
        · cases hc0
    obtain ⟨b, off, sp⟩ := ad
    simp only at hsp
    subst hsp
    refine .inr ⟨b, off, cap, rfl, ?_, fun j hj => ?_⟩
    · have := World.block_lt_of_cell? w _ hc0
      simpa [Addr.add_lit] using this
    · obtain ⟨ad', e', hR'⟩ := hf j hj
      cases e'
      have h1 := hR _ _ hR'
      rw [Addr.add_lit] at h1
      rw [List.getElem?_eq_getElem hj, Option.getD_some]
      exact h1
/-- Facts, and a row of the call's own. -/
def roRow (R : RO) (b : Nat) (cs : List Value) : RO := fun a v => R a v ∨ ∃ i, a = ⟨b, i, none⟩ ∧ cs[i]? = some v
/-- A slice whose memory no fact is about. -/
def NewS (R : RO) (u : Value) : Prop := ∀ a n c, u = .slice (some a) n c → Fresh R a.block
theorem NewS.anti {R R' : RO} {u : Value} (h : NewS R' u) (hle : RO.le R R') : NewS R u := fun a n c e x v hx => h a n c e x v (hle _ _ hx)
theorem add_block (a : Addr) (i : Nat) : (a.add i).block = a.block := by unfold Addr.add; split <;> rfl
theorem ints_keep {R R' R3 : RO} {u : Value} {xs : List Int} (h : Ints R' u xs) (hn : NewS R u) (hfr : ∀ a u, R' a u → Fresh R a.block → R3 a u) : Ints R3 u xs := by
  obtain ⟨a, cap, rfl, hc, hf⟩ := h
  refine ⟨a, cap, rfl, hc, fun i u hi => ?_⟩
  obtain ⟨ad, rfl, hR⟩ := hf i u hi
  exact ⟨ad, rfl, hfr _ _ hR (by rw [add_block]; exact hn ad _ _ rfl)⟩
theorem nRising (xs : List Int) (v : Value) (R : RO) (h : Ints R v xs) (hlen : xs.length ≤ 1099511627776) :
    CallsR Try.prog 24 [v] R fun R' u => Ints R' u (rising xs) ∧ NewS R u := by
  intro w hR
  obtain ⟨a, cap, rfl, hc, hf⟩ := h.form
  refine Calls.mono (callsIn_wide.1 (rising_in 6 (by omega) a cap xs hlen w (ints_holdsZ h hR))) ?_
  rintro e W' ⟨u, rfl, hrow, hB⟩
  have hX : Ext w W' := ⟨hB.1, hB.2, hB.3, hB.4, hB.5, by simp⟩
  rcases hrow.2 with ⟨rfl, hz⟩ | ⟨gb, cap', cur, rfl, hbase, hgb, r1, r2, r3, r4⟩
  · have : rising xs = [] := List.eq_nil_of_length_eq_zero hz
    exact ⟨_, R, rfl, RO.le_refl R, fun a v ha => ⟨by rw [hB.cell (World.block_lt_of_cell? w a (hR a v ha))]; exact hR a v ha, .inl ha⟩, hX, by rw [this]; exact Ints.nil _, fun a n c e => by cases e⟩
  · have hcell : ∀ i u, ((rising xs).map (Value.int .i64))[i]? = some u → W'.cell? ⟨gb, i, none⟩ = some u := by
      intro i u hi
      rw [← r4, List.getElem?_take] at hi
      split at hi
      · simp only [World.cell?, hgb, Option.isSome_none, Bool.false_eq_true, if_false]
        rw [← Array.getElem?_toList]; exact hi
      · cases hi
    refine ⟨_, roRow R gb ((rising xs).map (Value.int .i64)), rfl, fun a v ha => .inl ha, fun a v ha => ?_, hX, ?_⟩
    · rcases ha with ha | ⟨i, rfl, hi⟩
      · exact ⟨by rw [hB.cell (World.block_lt_of_cell? w a (hR a v ha))]; exact hR a v ha, .inl ha⟩
      · exact ⟨hcell i v hi, .inr ⟨hbase, cur, _, hgb⟩⟩
    · exact ⟨RowIn.ints (fun i v hi => .inr ⟨i, rfl, hi⟩) (by omega), fun a n c e x v hx => by cases e; have := World.block_lt_of_cell? w x (hR x v hx); simp only; omega⟩
end Go.Proofs.Ytlakekoekilbaaa
