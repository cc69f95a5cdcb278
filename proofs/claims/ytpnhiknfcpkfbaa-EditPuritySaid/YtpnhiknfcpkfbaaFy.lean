import Derived.Test.YtpnhiknfcpkfbaaFj
import Derived.Test.YtpnhiknfcpkfbaaCt
import Derived.Test.YtpnhiknfcpkfbaaFx
namespace Go.Proofs.Ytpnhiknfcpkfbaa
set_option linter.unusedSimpArgs false
set_option linter.unusedVariables false
open Go.Proofs.Ytpnhiknfcpkfbaa.Vc
/-- A made series in a box of the call's own, a made list. -/
def MadeQ (xs : List De) (rl : List Nd) (ms : List Mv) (minute : Int) (R0 : RO) (up x : Nat) (sl : Nat) (b0 : Blk) (s : St) : Prop :=
  ∃ env R xa xcap ra rn rc ma mcap, s = ⟨env, [b0, .box [.val (.slice ra rn rc), .val (.int .i64 minute), .val (.int .i64 1), .val (.string zA), .val (.int .i64 0), .val (.int .i64 0), .val (.slice ma ms.length mcap)]], R⟩ ∧ RO.le R0 R ∧
    env up = .val (.bool true) ∧ env x = .val (.slice xa xs.length xcap) ∧ env sl = .loc 1 0 ∧ EdsV R (.slice xa xs.length xcap) xs ∧ RuleV R (.slice ra rn rc) rl ∧ EncV Mv.cells 5 R (.slice ma ms.length mcap) ms
/-- MadeQ, and a number kept in a slot. -/
def MadeU (xs : List De) (rl : List Nd) (ms : List Mv) (minute : Int) (R0 : RO) (up x : Nat) (sl : Nat) (b0 : Blk) (z : Nat) (w : Value) (s : St) : Prop :=
  ∃ env R xa xcap ra rn rc ma mcap, s = ⟨env, [b0, .box [.val (.slice ra rn rc), .val (.int .i64 minute), .val (.int .i64 1), .val (.string zA), .val (.int .i64 0), .val (.int .i64 0), .val (.slice ma ms.length mcap)]], R⟩ ∧ RO.le R0 R ∧
    env up = .val (.bool true) ∧ env x = .val (.slice xa xs.length xcap) ∧ env sl = .loc 1 0 ∧ env z = .val w ∧ EdsV R (.slice xa xs.length xcap) xs ∧ RuleV R (.slice ra rn rc) rl ∧ EncV Mv.cells 5 R (.slice ma ms.length mcap) ms
theorem partAt_lt {l : List Int} {x : Int} (h : l ≠ []) : partAt l x < l.length := by
  unfold partAt
  have h1 := List.length_filter_le (fun f => decide (f ≤ x)) l
  have h2 := List.length_pos_iff.2 h
  omega
/-- A move in force is in a part. -/
theorem inforce_move (s : Se) (rl : List Nd) (ms : List Mv) {o : List De} {d : De} (hne : partsD s rl (forceD o) (endE (forceD o)) ≠ []) (hd : d ∈ forceD o) (hk : d.kind = 1) : (mergeP s rl ms o).any (fun p => p.moves.any fun m => decide (m = d.mv)) = true := by
  have hm : d.mv ∈ sortM (movesD ms (forceD o) (endE (forceD o))) := (sortM_perm _).mem_iff.2 (List.mem_append_left _ (List.mem_map_of_mem (List.mem_filter.2 ⟨hd, by simp [isMove, hk]⟩)))
  have hlt := partAt_lt (l := (partsD s rl (forceD o) (endE (forceD o))).map (·.1)) (x := d.mv.day) (by simpa using hne)
  rw [List.length_map] at hlt
  have hi : partAt ((partsD s rl (forceD o) (endE (forceD o))).map (·.1)) d.mv.day < (mergeP s rl ms o).length := by rw [mergeP_len]; exact hlt
  obtain ⟨p, _, hp⟩ := mergeP_at (List.getElem?_eq_getElem hi)
  refine List.any_eq_true.2 ⟨_, List.getElem_mem hi, ?_⟩
  rw [hp]
  exact List.any_eq_true.2 ⟨d.mv, List.mem_filter.2 ⟨hm, by simp⟩, by simp⟩
end Go.Proofs.Ytpnhiknfcpkfbaa
