import Derived.Test.YtpnhiknfcpkfbaaGreatEs
import Derived.Test.YtpnhiknfcpkfbaaGreatSr
import Derived.Test.YtpnhiknfcpkfbaaGreatMp
import Derived.Test.YtpnhiknfcpkfbaaGreatNp
import Derived.Shelf.Lay
import Derived.Ground.SlsfProg
import Derived.Shelf.SortM.Plain
import Derived.Ground.SlgmProg
import Derived.Shelf.SlicesG.CompactI
import Derived.Ground.SlgnProg
namespace Go.Proofs.YtpnhiknfcpkfbaaGreat
set_option linter.unusedSimpArgs false
set_option linter.unusedVariables false
open Go.Proofs.YtpnhiknfcpkfbaaGreat.Vc Go.Shelf Go.Sort
shelf_lay_g SlLaysF0.n6 Slsf 6 at Tryz 43 as Tryz.sortEd
shelf_lay_g SlLaysF0.n6 Slsf 6 at Tryz 52 as Tryz.sortMv
shelf_lay_g SlLaysM.n5 Slgm 5 at Tryz 46 as Tryz.sortA
shelf_lay_g SlLaysN.n43 Slgn 43 at Tryz 47 as Tryz.compactA
def cmpP (p q : Pl) : Int := cmpE p.ed q.ed
theorem ltP (p q : Pl) : ltOf cmpP p q = lessD p.1 q.1 := by
  unfold ltOf lessD cmpP
  simp only [cmpE_neg]
  rfl
theorem cmpP_swo : SWO (ltOf cmpP) := by
  refine ⟨fun x => ?_, fun x y z h k => ?_, fun x y z h k => ?_⟩
  · rw [ltP]; exact lessD_irrefl _
  · rw [ltP] at *; exact lessD_trans h k
  · rw [ltP] at *
    rw [lessD_false] at *; omega
theorem eSortEd (ps : List Pl) (hl : ps.length ≤ 1000000000) (R : RO) :
    CallsS Tryz.prog 43 [.sl 0 ps.length, .val (.func (.func 40) #[] #[])] [.row 28 13 (rowP ps)] R fun R' bs r =>
      R' = R ∧ ∃ qs : List Pl, qs.Perm ps ∧ (qs.Pairwise fun x y => lessD y.1 x.1 = false) ∧ bs = [.row 28 13 (rowP qs)] ∧ r = .val (.tuple #[]) := by
  have h := sortFuncS Tryz.sortEd 13 Tryz.isAgg28 Tryz.sizeOf28 (fun p : Pl => p.ed.cells) (fun _ => rfl) (fun p => edcells_one _) cmpP cmpP_swo 40 28
    (enters_of Tryz.func40 (by kernel_rfl) rfl) (fun x y => eCompareE x.ed y.ed _) ps (by omega) R
  simp only [ltP] at h
  exact h
theorem eSortEdNil (fv : Value) (R : RO) : CallsR Tryz.prog 43 [.slice none 0 0, fv] R fun _ r => r = .tuple #[] := sortFuncNil Tryz.sortEd fv R
theorem eMovesCmp (a b : Mv) (R : RO) : CallsR Tryz.prog 53 [a.val, b.val] R fun _ v => v = .int .i64 (cmpI a.day b.day) := by
  simp only [Mv.val]
  refine callsT mix Tryz.func53 comp53 (by simp [Tryz.ntmps53]) ?_; simp only [go_sem, ↓reduceIte, Nat.reduceEqDiff, Nat.reduceAdd, Nat.reduceMul, Nat.reduceLeDiff, Nat.reduceLT, Nat.reduceBNe, reduceCtorEq, vc53, rs53]
  refine vcall (eCompare a.day b.day R) ?_
  rintro R1 v h1 rfl
  try simp only [go_sem, ↓reduceIte, Nat.reduceEqDiff, Nat.reduceAdd, Nat.reduceMul, Nat.reduceLeDiff, Nat.reduceLT, Nat.reduceBNe, reduceCtorEq]
def rowM (ms : List Mv) : List Value := (ms.map Mv.cells).flatten
theorem rowM_len (os : List Mv) : (rowM os).length = os.length * 5 := by
  unfold rowM
  rw [length_flattenK (k := 5) (fun us hus => by obtain ⟨x, _, rfl⟩ := List.mem_map.1 hus; rfl)]
  simp
theorem rowM_snoc (os : List Mv) (o : Mv) : rowM (os ++ [o]) = rowM os ++ o.cells := by simp [rowM]
def cmpM (a b : Mv) : Int := cmpI a.day b.day
theorem mvcells_one (e : Mv) : ∀ v ∈ e.cells, v.oneCell' = true := by
  intro v hv
  simp only [Mv.cells, List.mem_cons, List.not_mem_nil, or_false] at hv
  rcases hv with rfl | rfl | rfl | rfl | rfl <;> rfl
instance : Inhabited Mv := ⟨⟨0, false, 0, 0, 0⟩⟩
theorem ltM (p q : Mv) : ltOf cmpM p q = decide (p.day < q.day) := by
  unfold ltOf cmpM cmpI
  split
  · simp [*]
  · split <;> simp <;> omega
theorem cmpM_swo : SWO (ltOf cmpM) := by
  refine ⟨fun x => ?_, fun x y z h k => ?_, fun x y z h k => ?_⟩
  · rw [ltM]; simp
  · rw [ltM] at *; simp at *; omega
  · rw [ltM] at *; simp at *; omega
theorem eSortMv (ms : List Mv) (hl : ms.length ≤ 1000000000) (R : RO) :
    CallsS Tryz.prog 52 [.sl 0 ms.length, .val (.func (.func 53) #[] #[])] [.row 24 5 (rowM ms)] R fun R' bs r =>
      R' = R ∧ ∃ qs : List Mv, qs.Perm ms ∧ (qs.Pairwise fun x y => x.day ≤ y.day) ∧ bs = [.row 24 5 (rowM qs)] ∧ r = .val (.tuple #[]) := by
  have h := sortFuncS Tryz.sortMv 5 Tryz.isAgg24 Tryz.sizeOf24 Mv.cells (fun _ => rfl) mvcells_one cmpM cmpM_swo 53 24
    (enters_of Tryz.func53 (by kernel_rfl) rfl) (fun x y => eMovesCmp x y _) ms (by omega) R
  simp only [ltM, decide_eq_false_iff_not, Int.not_lt] at h
  exact h
theorem eSortMvNil (fv : Value) (R : RO) : CallsR Tryz.prog 52 [.slice none 0 0, fv] R fun _ r => r = .tuple #[] := sortFuncNil Tryz.sortMv fv R
theorem eSortInts (xs : List Int) (hl : xs.length ≤ 1000000000) (R : RO) : CallsS Tryz.prog 46 [.sl 0 xs.length] [.row 3 1 (xs.map (.int .i64))] R fun R' bs r => R' = R ∧ bs = [.row 3 1 ((xs.mergeSort fun x y => decide (x ≤ y)).map (.int .i64))] ∧ r = .val (.tuple #[]) := sortIntsS Tryz.sortA 3 xs (by omega) R
theorem eCompactInts (xs : List Int) (hl : xs.length ≤ 1000000000) (R : RO) : CallsS Tryz.prog 47 [.sl 0 xs.length] [.row 3 1 (xs.map (.int .i64))] R fun R' bs r => R' = R ∧ bs = [.row 3 1 ((Lib.compact xs ++ List.replicate (xs.length - (Lib.compact xs).length) 0).map (.int .i64))] ∧ r = .sl 0 (Lib.compact xs).length := compactIntsS Tryz.compactA 3 xs (by omega) R
end Go.Proofs.YtpnhiknfcpkfbaaGreat
