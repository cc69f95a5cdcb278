import Derived.Test.YtpnhiknfcpkfbaaEs
import Derived.Test.YtpnhiknfcpkfbaaSr
import Derived.Test.YtpnhiknfcpkfbaaMp
import Derived.Test.YtpnhiknfcpkfbaaNp
import Derived.Shelf.Lay
import Derived.Ground.SlsfProg
import Derived.Shelf.SortM.Plain
import Derived.Ground.SlgmProg
import Derived.Shelf.SlicesG.CompactI
import Derived.Ground.SlgnProg
namespace Go.Proofs.Ytpnhiknfcpkfbaa
set_option linter.unusedSimpArgs false
set_option linter.unusedVariables false
open Go.Proofs.Ytpnhiknfcpkfbaa.Vc Go.Shelf Go.Sort
shelf_lay_g SlLaysF0.n6 Slsf 6 at Try 46 as Try.sortEd
shelf_lay_g SlLaysF0.n6 Slsf 6 at Try 53 as Try.sortMv
shelf_lay_g SlLaysM.n5 Slgm 5 at Try 47 as Try.sortA
shelf_lay_g SlLaysN.n43 Slgn 43 at Try 48 as Try.compactA
def cmpP (p q : Pl) : Int := cmpE p.ed q.ed
theorem ltP (p q : Pl) : ltOf cmpP p q = lessD p.1 q.1 := by
  unfold ltOf lessD cmpP
  simp only [cmpE_neg]
  rfl
theorem cmpP_swo : SWO (ltOf cmpP) := by
  refine ⟨fun x => ?_, fun x y z h k => ?_, fun x y z h k => ?_⟩
  · rw [ltP]; exact lessD_irrefl _
  · rw [ltP] at *; exact lessD_trans h k
  · rw [ltP] at *
    rw [lessD_false] at *; omega
theorem eSortEd (ps : List Pl) (hl : ps.length ≤ 1000000000) (R : RO) :
    CallsS Try.prog 46 [.sl 0 ps.length, .val (.func (.func 30) #[] #[])] [.row 27 13 (rowP ps)] R fun R' bs r =>
      R' = R ∧ ∃ qs : List Pl, qs.Perm ps ∧ (qs.Pairwise fun x y => lessD y.1 x.1 = false) ∧ bs = [.row 27 13 (rowP qs)] ∧ r = .val (.tuple #[]) := by
  have h := sortFuncS Try.sortEd 13 Try.isAgg27 Try.sizeOf27 (fun p : Pl => p.ed.cells) (fun _ => rfl) (fun p => edcells_one _) cmpP cmpP_swo 30 27
    (enters_of Try.func30 (by kernel_rfl) rfl) (fun x y => eCompareE x.ed y.ed _) ps (by omega) R
  simp only [ltP] at h
  exact h
theorem eSortEdNil (fv : Value) (R : RO) : CallsR Try.prog 46 [.slice none 0 0, fv] R fun _ r => r = .tuple #[] := sortFuncNil Try.sortEd fv R
theorem eMovesCmp (a b : Mv) (R : RO) : CallsR Try.prog 54 [a.val, b.val] R fun _ v => v = .int .i64 (cmpI a.day b.day) := by
  simp only [Mv.val]
  refine callsT mix Try.func54 comp54 (by simp [Try.ntmps54]) ?_; simp only [go_sem, ↓reduceIte, Nat.reduceEqDiff, Nat.reduceAdd, Nat.reduceMul, Nat.reduceLeDiff, Nat.reduceLT, Nat.reduceBNe, reduceCtorEq, vc54, rs54]
  refine vcall (eCompare a.day b.day R) ?_
  rintro R1 v h1 rfl
  try simp only [go_sem, ↓reduceIte, Nat.reduceEqDiff, Nat.reduceAdd, Nat.reduceMul, Nat.reduceLeDiff, Nat.reduceLT, Nat.reduceBNe, reduceCtorEq]
def rowM (ms : List Mv) : List Value := (ms.map Mv.cells).flatten
theorem rowM_len (os : List Mv) : (rowM os).length = os.length * 5 := by
  unfold rowM
  rw [length_flattenK (k := 5) (fun us hus => by obtain ⟨x, _, rfl⟩ := List.mem_map.1 hus; rfl)]
  simp
theorem rowM_snoc (os : List Mv) (o : Mv) : rowM (os ++ [o]) = rowM os ++ o.cells := by simp [rowM]
def cmpM (a b : Mv) : Int := cmpI a.day b.day
theorem mvcells_one (e : Mv) : ∀ v ∈ e.cells, v.oneCell' = true := by
  intro v hv
  simp only [Mv.cells, List.mem_cons, List.not_mem_nil, or_false] at hv
  rcases hv with rfl | rfl | rfl | rfl | rfl <;> rfl
instance : Inhabited Mv := ⟨⟨0, false, 0, 0, 0⟩⟩
theorem ltM (p q : Mv) : ltOf cmpM p q = decide (p.day < q.day) := by
  unfold ltOf cmpM cmpI
  split
  · simp [*]
  · split <;> simp <;> omega
theorem cmpM_swo : SWO (ltOf cmpM) := by
  refine ⟨fun x => ?_, fun x y z h k => ?_, fun x y z h k => ?_⟩
  · rw [ltM]; simp
  · rw [ltM] at *; simp at *; omega
  · rw [ltM] at *; simp at *; omega
theorem eSortMv (ms : List Mv) (hl : ms.length ≤ 1000000000) (R : RO) :
    CallsS Try.prog 53 [.sl 0 ms.length, .val (.func (.func 54) #[] #[])] [.row 23 5 (rowM ms)] R fun R' bs r =>
      R' = R ∧ ∃ qs : List Mv, qs.Perm ms ∧ (qs.Pairwise fun x y => x.day ≤ y.day) ∧ bs = [.row 23 5 (rowM qs)] ∧ r = .val (.tuple #[]) := by
  have h := sortFuncS Try.sortMv 5 Try.isAgg23 Try.sizeOf23 Mv.cells (fun _ => rfl) mvcells_one cmpM cmpM_swo 54 23
    (enters_of Try.func54 (by kernel_rfl) rfl) (fun x y => eMovesCmp x y _) ms (by omega) R
  simp only [ltM, decide_eq_false_iff_not, Int.not_lt] at h
  exact h
theorem eSortMvNil (fv : Value) (R : RO) : CallsR Try.prog 53 [.slice none 0 0, fv] R fun _ r => r = .tuple #[] := sortFuncNil Try.sortMv fv R
theorem eSortInts (xs : List Int) (hl : xs.length ≤ 1000000000) (R : RO) : CallsS Try.prog 47 [.sl 0 xs.length] [.row 3 1 (xs.map (.int .i64))] R fun R' bs r => R' = R ∧ bs = [.row 3 1 ((xs.mergeSort fun x y => decide (x ≤ y)).map (.int .i64))] ∧ r = .val (.tuple #[]) := sortIntsS Try.sortA 3 xs (by omega) R
theorem eCompactInts (xs : List Int) (hl : xs.length ≤ 1000000000) (R : RO) : CallsS Try.prog 48 [.sl 0 xs.length] [.row 3 1 (xs.map (.int .i64))] R fun R' bs r => R' = R ∧ bs = [.row 3 1 ((Lib.compact xs ++ List.replicate (xs.length - (Lib.compact xs).length) 0).map (.int .i64))] ∧ r = .sl 0 (Lib.compact xs).length := compactIntsS Try.compactA 3 xs (by omega) R
end Go.Proofs.Ytpnhiknfcpkfbaa
