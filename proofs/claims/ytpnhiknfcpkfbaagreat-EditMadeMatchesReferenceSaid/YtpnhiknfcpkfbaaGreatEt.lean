import Derived.Test.YtpnhiknfcpkfbaaGreatEs
import Derived.Test.YtpnhiknfcpkfbaaGreatSr
import Derived.Test.YtpnhiknfcpkfbaaGreatMp
import Derived.Test.YtpnhiknfcpkfbaaGreatNp
import Derived.Ground.SlsfProg
import Derived.Shelf.SortM.Plain
import Derived.Ground.SlgmProg
import Derived.Shelf.SlicesG.CompactI
import Derived.Ground.SlgnProg
namespace Go.Proofs.YtpnhiknfcpkfbaaGreat
set_option linter.unusedSimpArgs false
set_option linter.unusedVariables false
open Go.Proofs.YtpnhiknfcpkfbaaGreat.Vc Go.Shelf Go.Sort
def Tryz.sortEd_ren : Go.Shelf.Ren := ⟨fun | 6 => 43 | 15 => 60 | 14 => 59 | 28 => 75 | 29 => 76 | 20 => 67 | 21 => 68 | 22 => 69 | 23 => 70 | 24 => 71 | 25 => 72 | 26 => 73 | 27 => 74 | 46 => 94 | 47 => 95 | 48 => 96 | 49 => 97 | 50 => 98 | 57 => 105 | n => n, fun | 22 => 22 | 24 => 28 | 25 => 84 | 3 => 3 | 39 => 104 | 0 => 0 | 53 => 118 | 55 => 120 | 4 => 4 | 46 => 111 | 45 => 110 | 50 => 115 | 5 => 5 | 9 => 9 | 66 => 132 | 70 => 136 | 76 => 142 | 77 => 143 | n => n, fun | n => n⟩
theorem Tryz.sortEd : Go.Proofs.SlLaysF0.n6 Tryz.prog Tryz.sortEd_ren := {
  mixed := by kernel_rfl
  f6 := ⟨Tryz.f43.name, by decide, Tryz.func43.trans (congrArg some (by kernel_rfl))⟩
  f14 := ⟨Tryz.f59.name, by decide, Tryz.func59.trans (congrArg some (by kernel_rfl))⟩
  f15 := Tryz.func60.trans (congrArg some (by kernel_rfl))
  f20 := ⟨Tryz.f67.name, by decide, Tryz.func67.trans (congrArg some (by kernel_rfl))⟩
  f21 := ⟨Tryz.f68.name, by decide, Tryz.func68.trans (congrArg some (by kernel_rfl))⟩
  f22 := ⟨Tryz.f69.name, by decide, Tryz.func69.trans (congrArg some (by kernel_rfl))⟩
  f23 := ⟨Tryz.f70.name, by decide, Tryz.func70.trans (congrArg some (by kernel_rfl))⟩
  f24 := ⟨Tryz.f71.name, by decide, Tryz.func71.trans (congrArg some (by kernel_rfl))⟩
  f25 := ⟨Tryz.f72.name, by decide, Tryz.func72.trans (congrArg some (by kernel_rfl))⟩
  f26 := ⟨Tryz.f73.name, by decide, Tryz.func73.trans (congrArg some (by kernel_rfl))⟩
  f27 := ⟨Tryz.f74.name, by decide, Tryz.func74.trans (congrArg some (by kernel_rfl))⟩
  f28 := Tryz.func75.trans (congrArg some (by kernel_rfl))
  f29 := Tryz.func76.trans (congrArg some (by kernel_rfl))
  f46 := ⟨Tryz.f94.name, by decide, Tryz.func94.trans (congrArg some (by kernel_rfl))⟩
  f47 := Tryz.func95.trans (congrArg some (by kernel_rfl))
  f48 := Tryz.func96.trans (congrArg some (by kernel_rfl))
  f49 := ⟨Tryz.f97.name, by decide, Tryz.func97.trans (congrArg some (by kernel_rfl))⟩
  f50 := ⟨Tryz.f98.name, by decide, Tryz.func98.trans (congrArg some (by kernel_rfl))⟩
  f57 := ⟨Tryz.f105.name, by decide, Tryz.func105.trans (congrArg some (by kernel_rfl))⟩
  t0 := Tryz.underlying0
  a0 := Tryz.isAgg0
  z0 := Tryz.sizeOf0
  v0 := Tryz.zeroValue0
  t3 := Tryz.underlying3
  a3 := Tryz.isAgg3
  z3 := Tryz.sizeOf3
  v3 := Tryz.zeroValue3
  t4 := Tryz.underlying4
  a4 := Tryz.isAgg4
  z4 := Tryz.sizeOf4
  v4 := Tryz.zeroValue4
  t5 := Tryz.underlying5
  a5 := Tryz.isAgg5
  z5 := Tryz.sizeOf5
  v5 := Tryz.zeroValue5
  t9 := Tryz.underlying9
  a9 := Tryz.isAgg9
  z9 := Tryz.sizeOf9
  v9 := Tryz.zeroValue9
  t22 := Tryz.underlying22
  a22 := Tryz.isAgg22
  z22 := Tryz.sizeOf22
  v22 := Tryz.zeroValue22
  t25 := Tryz.underlying84
  a25 := Tryz.isAgg84
  z25 := Tryz.sizeOf84
  v25 := Tryz.zeroValue84
  t39 := Tryz.underlying104
  a39 := Tryz.isAgg104
  z39 := Tryz.sizeOf104
  v39 := Tryz.zeroValue104
  t45 := Tryz.underlying110
  a45 := Tryz.isAgg110
  z45 := Tryz.sizeOf110
  v45 := Tryz.zeroValue110
  t46 := Tryz.underlying111
  a46 := Tryz.isAgg111
  z46 := Tryz.sizeOf111
  v46 := Tryz.zeroValue111
  t50 := Tryz.underlying115
  a50 := Tryz.isAgg115
  z50 := Tryz.sizeOf115
  v50 := Tryz.zeroValue115
  t53 := Tryz.underlying118
  a53 := Tryz.isAgg118
  z53 := Tryz.sizeOf118
  v53 := Tryz.zeroValue118
  t55 := Tryz.underlying120
  a55 := Tryz.isAgg120
  z55 := Tryz.sizeOf120
  v55 := Tryz.zeroValue120
  t66 := Tryz.underlying132
  a66 := Tryz.isAgg132
  z66 := Tryz.sizeOf132
  v66 := Tryz.zeroValue132
  t70 := Tryz.underlying136
  a70 := Tryz.isAgg136
  z70 := Tryz.sizeOf136
  v70 := Tryz.zeroValue136
  t76 := Tryz.underlying142
  a76 := Tryz.isAgg142
  z76 := Tryz.sizeOf142
  v76 := Tryz.zeroValue142
  t77 := Tryz.underlying143
  a77 := Tryz.isAgg143
  z77 := Tryz.sizeOf143
  v77 := Tryz.zeroValue143 }
def Tryz.sortMv_ren : Go.Shelf.Ren := ⟨fun | 6 => 52 | 15 => 60 | 14 => 65 | 28 => 75 | 29 => 76 | 20 => 86 | 21 => 87 | 22 => 88 | 23 => 89 | 24 => 90 | 25 => 91 | 26 => 92 | 27 => 93 | 46 => 102 | 47 => 95 | 48 => 96 | 49 => 103 | 50 => 104 | 57 => 107 | n => n, fun | 22 => 31 | 24 => 24 | 25 => 99 | 3 => 3 | 39 => 104 | 0 => 0 | 53 => 118 | 55 => 120 | 4 => 4 | 46 => 111 | 45 => 110 | 50 => 115 | 5 => 5 | 9 => 9 | 66 => 132 | 70 => 136 | 76 => 142 | 77 => 143 | n => n, fun | n => n⟩
theorem Tryz.sortMv : Go.Proofs.SlLaysF0.n6 Tryz.prog Tryz.sortMv_ren := {
  mixed := by kernel_rfl
  f6 := ⟨Tryz.f52.name, by decide, Tryz.func52.trans (congrArg some (by kernel_rfl))⟩
  f14 := ⟨Tryz.f65.name, by decide, Tryz.func65.trans (congrArg some (by kernel_rfl))⟩
  f15 := Tryz.func60.trans (congrArg some (by kernel_rfl))
  f20 := ⟨Tryz.f86.name, by decide, Tryz.func86.trans (congrArg some (by kernel_rfl))⟩
  f21 := ⟨Tryz.f87.name, by decide, Tryz.func87.trans (congrArg some (by kernel_rfl))⟩
  f22 := ⟨Tryz.f88.name, by decide, Tryz.func88.trans (congrArg some (by kernel_rfl))⟩
  f23 := ⟨Tryz.f89.name, by decide, Tryz.func89.trans (congrArg some (by kernel_rfl))⟩
  f24 := ⟨Tryz.f90.name, by decide, Tryz.func90.trans (congrArg some (by kernel_rfl))⟩
  f25 := ⟨Tryz.f91.name, by decide, Tryz.func91.trans (congrArg some (by kernel_rfl))⟩
  f26 := ⟨Tryz.f92.name, by decide, Tryz.func92.trans (congrArg some (by kernel_rfl))⟩
  f27 := ⟨Tryz.f93.name, by decide, Tryz.func93.trans (congrArg some (by kernel_rfl))⟩
  f28 := Tryz.func75.trans (congrArg some (by kernel_rfl))
  f29 := Tryz.func76.trans (congrArg some (by kernel_rfl))
  f46 := ⟨Tryz.f102.name, by decide, Tryz.func102.trans (congrArg some (by kernel_rfl))⟩
  f47 := Tryz.func95.trans (congrArg some (by kernel_rfl))
  f48 := Tryz.func96.trans (congrArg some (by kernel_rfl))
  f49 := ⟨Tryz.f103.name, by decide, Tryz.func103.trans (congrArg some (by kernel_rfl))⟩
  f50 := ⟨Tryz.f104.name, by decide, Tryz.func104.trans (congrArg some (by kernel_rfl))⟩
  f57 := ⟨Tryz.f107.name, by decide, Tryz.func107.trans (congrArg some (by kernel_rfl))⟩
  t0 := Tryz.underlying0
  a0 := Tryz.isAgg0
  z0 := Tryz.sizeOf0
  v0 := Tryz.zeroValue0
  t3 := Tryz.underlying3
  a3 := Tryz.isAgg3
  z3 := Tryz.sizeOf3
  v3 := Tryz.zeroValue3
  t4 := Tryz.underlying4
  a4 := Tryz.isAgg4
  z4 := Tryz.sizeOf4
  v4 := Tryz.zeroValue4
  t5 := Tryz.underlying5
  a5 := Tryz.isAgg5
  z5 := Tryz.sizeOf5
  v5 := Tryz.zeroValue5
  t9 := Tryz.underlying9
  a9 := Tryz.isAgg9
  z9 := Tryz.sizeOf9
  v9 := Tryz.zeroValue9
  t22 := Tryz.underlying31
  a22 := Tryz.isAgg31
  z22 := Tryz.sizeOf31
  v22 := Tryz.zeroValue31
  t25 := Tryz.underlying99
  a25 := Tryz.isAgg99
  z25 := Tryz.sizeOf99
  v25 := Tryz.zeroValue99
  t39 := Tryz.underlying104
  a39 := Tryz.isAgg104
  z39 := Tryz.sizeOf104
  v39 := Tryz.zeroValue104
  t45 := Tryz.underlying110
  a45 := Tryz.isAgg110
  z45 := Tryz.sizeOf110
  v45 := Tryz.zeroValue110
  t46 := Tryz.underlying111
  a46 := Tryz.isAgg111
  z46 := Tryz.sizeOf111
  v46 := Tryz.zeroValue111
  t50 := Tryz.underlying115
  a50 := Tryz.isAgg115
  z50 := Tryz.sizeOf115
  v50 := Tryz.zeroValue115
  t53 := Tryz.underlying118
  a53 := Tryz.isAgg118
  z53 := Tryz.sizeOf118
  v53 := Tryz.zeroValue118
  t55 := Tryz.underlying120
  a55 := Tryz.isAgg120
  z55 := Tryz.sizeOf120
  v55 := Tryz.zeroValue120
  t66 := Tryz.underlying132
  a66 := Tryz.isAgg132
  z66 := Tryz.sizeOf132
  v66 := Tryz.zeroValue132
  t70 := Tryz.underlying136
  a70 := Tryz.isAgg136
  z70 := Tryz.sizeOf136
  v70 := Tryz.zeroValue136
  t76 := Tryz.underlying142
  a76 := Tryz.isAgg142
  z76 := Tryz.sizeOf142
  v76 := Tryz.zeroValue142
  t77 := Tryz.underlying143
  a77 := Tryz.isAgg143
  z77 := Tryz.sizeOf143
  v77 := Tryz.zeroValue143 }
def Tryz.sortA_ren : Go.Shelf.Ren := ⟨fun | 5 => 46 | 8 => 60 | 7 => 61 | 19 => 75 | 20 => 76 | 10 => 77 | 11 => 78 | 12 => 79 | 13 => 80 | 14 => 81 | 15 => 82 | 16 => 83 | 17 => 84 | 18 => 85 | 30 => 99 | 31 => 95 | 32 => 96 | 33 => 100 | 34 => 101 | 35 => 66 | 40 => 106 | n => n, fun | 23 => 56 | 25 => 3 | 3 => 3 | 32 => 104 | 22 => 56 | 0 => 0 | 44 => 118 | 46 => 120 | 4 => 4 | 36 => 111 | 35 => 110 | 41 => 115 | 5 => 5 | 9 => 9 | 53 => 132 | 57 => 136 | 63 => 142 | 64 => 143 | n => n, fun | n => n⟩
theorem Tryz.sortA : Go.Proofs.SlLaysM.n5 Tryz.prog Tryz.sortA_ren := {
  mixed := by kernel_rfl
  f5 := ⟨Tryz.f46.name, by decide, Tryz.func46.trans (congrArg some (by kernel_rfl))⟩
  f7 := ⟨Tryz.f61.name, by decide, Tryz.func61.trans (congrArg some (by kernel_rfl))⟩
  f8 := Tryz.func60.trans (congrArg some (by kernel_rfl))
  f10 := ⟨Tryz.f77.name, by decide, Tryz.func77.trans (congrArg some (by kernel_rfl))⟩
  f11 := ⟨Tryz.f78.name, by decide, Tryz.func78.trans (congrArg some (by kernel_rfl))⟩
  f12 := ⟨Tryz.f79.name, by decide, Tryz.func79.trans (congrArg some (by kernel_rfl))⟩
  f13 := ⟨Tryz.f80.name, by decide, Tryz.func80.trans (congrArg some (by kernel_rfl))⟩
  f14 := ⟨Tryz.f81.name, by decide, Tryz.func81.trans (congrArg some (by kernel_rfl))⟩
  f15 := ⟨Tryz.f82.name, by decide, Tryz.func82.trans (congrArg some (by kernel_rfl))⟩
  f16 := ⟨Tryz.f83.name, by decide, Tryz.func83.trans (congrArg some (by kernel_rfl))⟩
  f17 := ⟨Tryz.f84.name, by decide, Tryz.func84.trans (congrArg some (by kernel_rfl))⟩
  f18 := ⟨Tryz.f85.name, by decide, Tryz.func85.trans (congrArg some (by kernel_rfl))⟩
  f19 := Tryz.func75.trans (congrArg some (by kernel_rfl))
  f20 := Tryz.func76.trans (congrArg some (by kernel_rfl))
  f30 := ⟨Tryz.f99.name, by decide, Tryz.func99.trans (congrArg some (by kernel_rfl))⟩
  f31 := Tryz.func95.trans (congrArg some (by kernel_rfl))
  f32 := Tryz.func96.trans (congrArg some (by kernel_rfl))
  f33 := ⟨Tryz.f100.name, by decide, Tryz.func100.trans (congrArg some (by kernel_rfl))⟩
  f34 := ⟨Tryz.f101.name, by decide, Tryz.func101.trans (congrArg some (by kernel_rfl))⟩
  f35 := ⟨Tryz.f66.name, by decide, Tryz.func66.trans (congrArg some (by kernel_rfl))⟩
  f40 := ⟨Tryz.f106.name, by decide, Tryz.func106.trans (congrArg some (by kernel_rfl))⟩
  t0 := Tryz.underlying0
  a0 := Tryz.isAgg0
  z0 := Tryz.sizeOf0
  v0 := Tryz.zeroValue0
  t3 := Tryz.underlying3
  a3 := Tryz.isAgg3
  z3 := Tryz.sizeOf3
  v3 := Tryz.zeroValue3
  t4 := Tryz.underlying4
  a4 := Tryz.isAgg4
  z4 := Tryz.sizeOf4
  v4 := Tryz.zeroValue4
  t5 := Tryz.underlying5
  a5 := Tryz.isAgg5
  z5 := Tryz.sizeOf5
  v5 := Tryz.zeroValue5
  t9 := Tryz.underlying9
  a9 := Tryz.isAgg9
  z9 := Tryz.sizeOf9
  v9 := Tryz.zeroValue9
  t22 := Tryz.underlying56
  a22 := Tryz.isAgg56
  z22 := Tryz.sizeOf56
  v22 := Tryz.zeroValue56
  t23 := Tryz.underlying56
  a23 := Tryz.isAgg56
  z23 := Tryz.sizeOf56
  v23 := Tryz.zeroValue56
  t25 := Tryz.underlying3
  a25 := Tryz.isAgg3
  z25 := Tryz.sizeOf3
  v25 := Tryz.zeroValue3
  t32 := Tryz.underlying104
  a32 := Tryz.isAgg104
  z32 := Tryz.sizeOf104
  v32 := Tryz.zeroValue104
  t35 := Tryz.underlying110
  a35 := Tryz.isAgg110
  z35 := Tryz.sizeOf110
  v35 := Tryz.zeroValue110
  t36 := Tryz.underlying111
  a36 := Tryz.isAgg111
  z36 := Tryz.sizeOf111
  v36 := Tryz.zeroValue111
  t41 := Tryz.underlying115
  a41 := Tryz.isAgg115
  z41 := Tryz.sizeOf115
  v41 := Tryz.zeroValue115
  t44 := Tryz.underlying118
  a44 := Tryz.isAgg118
  z44 := Tryz.sizeOf118
  v44 := Tryz.zeroValue118
  t46 := Tryz.underlying120
  a46 := Tryz.isAgg120
  z46 := Tryz.sizeOf120
  v46 := Tryz.zeroValue120
  t53 := Tryz.underlying132
  a53 := Tryz.isAgg132
  z53 := Tryz.sizeOf132
  v53 := Tryz.zeroValue132
  t57 := Tryz.underlying136
  a57 := Tryz.isAgg136
  z57 := Tryz.sizeOf136
  v57 := Tryz.zeroValue136
  t63 := Tryz.underlying142
  a63 := Tryz.isAgg142
  z63 := Tryz.sizeOf142
  v63 := Tryz.zeroValue142
  t64 := Tryz.underlying143
  a64 := Tryz.isAgg143
  z64 := Tryz.sizeOf143
  v64 := Tryz.zeroValue143 }
def Tryz.compactA_ren : Go.Shelf.Ren := ⟨fun | 43 => 47 | n => n, fun | 22 => 56 | 23 => 3 | 3 => 3 | 4 => 4 | 0 => 0 | n => n, fun | n => n⟩
theorem Tryz.compactA : Go.Proofs.SlLaysN.n43 Tryz.prog Tryz.compactA_ren := {
  mixed := by kernel_rfl
  f43 := ⟨Tryz.f47.name, by decide, Tryz.func47.trans (congrArg some (by kernel_rfl))⟩
  t0 := Tryz.underlying0
  a0 := Tryz.isAgg0
  z0 := Tryz.sizeOf0
  v0 := Tryz.zeroValue0
  t3 := Tryz.underlying3
  a3 := Tryz.isAgg3
  z3 := Tryz.sizeOf3
  v3 := Tryz.zeroValue3
  t4 := Tryz.underlying4
  a4 := Tryz.isAgg4
  z4 := Tryz.sizeOf4
  v4 := Tryz.zeroValue4
  t22 := Tryz.underlying56
  a22 := Tryz.isAgg56
  z22 := Tryz.sizeOf56
  v22 := Tryz.zeroValue56
  t23 := Tryz.underlying3
  a23 := Tryz.isAgg3
  z23 := Tryz.sizeOf3
  v23 := Tryz.zeroValue3
  i23 := by kernel_rfl }
def cmpP (p q : Pl) : Int := cmpE p.ed q.ed
theorem ltP (p q : Pl) : ltOf cmpP p q = lessD p.1 q.1 := by
  unfold ltOf lessD cmpP
  simp only [cmpE_neg]
  rfl
theorem cmpP_swo : SWO (ltOf cmpP) := by
  refine ⟨fun x => ?_, fun x y z h k => ?_, fun x y z h k => ?_⟩
  · rw [ltP]; exact lessD_irrefl _
  · rw [ltP] at *; exact lessD_trans h k
  · rw [ltP] at *
    rw [lessD_false] at *; omega
theorem eSortEd (ps : List Pl) (hl : ps.length ≤ 1000000000) (R : RO) :
    CallsS Tryz.prog 43 [.sl 0 ps.length, .val (.func (.func 40) #[] #[])] [.row 28 13 (rowP ps)] R fun R' bs r =>
      R' = R ∧ ∃ qs : List Pl, qs.Perm ps ∧ (qs.Pairwise fun x y => lessD y.1 x.1 = false) ∧ bs = [.row 28 13 (rowP qs)] ∧ r = .val (.tuple #[]) := by
  have h := sortFuncS Tryz.sortEd 13 Tryz.isAgg28 Tryz.sizeOf28 (fun p : Pl => p.ed.cells) (fun _ => rfl) (fun p => edcells_one _) cmpP cmpP_swo 40 28
    (enters_of Tryz.func40 (by kernel_rfl) rfl) (fun x y => eCompareE x.ed y.ed _) ps (by omega) R
  simp only [ltP] at h
  exact h
theorem eSortEdNil (fv : Value) (R : RO) : CallsR Tryz.prog 43 [.slice none 0 0, fv] R fun _ r => r = .tuple #[] := sortFuncNil Tryz.sortEd fv R
theorem eMovesCmp (a b : Mv) (R : RO) : CallsR Tryz.prog 53 [a.val, b.val] R fun _ v => v = .int .i64 (cmpI a.day b.day) := by
  simp only [Mv.val]
  refine callsT mix Tryz.func53 comp53 (by simp [Tryz.ntmps53]) ?_; simp only [go_sem, ↓reduceIte, Nat.reduceEqDiff, Nat.reduceAdd, Nat.reduceMul, Nat.reduceLeDiff, Nat.reduceLT, Nat.reduceBNe, reduceCtorEq, vc53, rs53]
  refine vcall (eCompare a.day b.day R) ?_
  rintro R1 v h1 rfl
  try simp only [go_sem, ↓reduceIte, Nat.reduceEqDiff, Nat.reduceAdd, Nat.reduceMul, Nat.reduceLeDiff, Nat.reduceLT, Nat.reduceBNe, reduceCtorEq]
def rowM (ms : List Mv) : List Value := (ms.map Mv.cells).flatten
theorem rowM_len (os : List Mv) : (rowM os).length = os.length * 5 := by
  unfold rowM
  rw [length_flattenK (k := 5) (fun us hus => by obtain ⟨x, _, rfl⟩ := List.mem_map.1 hus; rfl)]
  simp
theorem rowM_snoc (os : List Mv) (o : Mv) : rowM (os ++ [o]) = rowM os ++ o.cells := by simp [rowM]
def cmpM (a b : Mv) : Int := cmpI a.day b.day
theorem mvcells_one (e : Mv) : ∀ v ∈ e.cells, v.oneCell' = true := by
  intro v hv
  simp only [Mv.cells, List.mem_cons, List.not_mem_nil, or_false] at hv
  rcases hv with rfl | rfl | rfl | rfl | rfl <;> rfl
instance : Inhabited Mv := ⟨⟨0, false, 0, 0, 0⟩⟩
theorem ltM (p q : Mv) : ltOf cmpM p q = decide (p.day < q.day) := by
  unfold ltOf cmpM cmpI
  split
  · simp [*]
  · split <;> simp <;> omega
theorem cmpM_swo : SWO (ltOf cmpM) := by
  refine ⟨fun x => ?_, fun x y z h k => ?_, fun x y z h k => ?_⟩
  · rw [ltM]; simp
  · rw [ltM] at *; simp at *; omega
  · rw [ltM] at *; simp at *; omega
theorem eSortMv (ms : List Mv) (hl : ms.length ≤ 1000000000) (R : RO) :
    CallsS Tryz.prog 52 [.sl 0 ms.length, .val (.func (.func 53) #[] #[])] [.row 24 5 (rowM ms)] R fun R' bs r =>
      R' = R ∧ ∃ qs : List Mv, qs.Perm ms ∧ (qs.Pairwise fun x y => x.day ≤ y.day) ∧ bs = [.row 24 5 (rowM qs)] ∧ r = .val (.tuple #[]) := by
  have h := sortFuncS Tryz.sortMv 5 Tryz.isAgg24 Tryz.sizeOf24 Mv.cells (fun _ => rfl) mvcells_one cmpM cmpM_swo 53 24
    (enters_of Tryz.func53 (by kernel_rfl) rfl) (fun x y => eMovesCmp x y _) ms (by omega) R
  simp only [ltM, decide_eq_false_iff_not, Int.not_lt] at h
  exact h
theorem eSortMvNil (fv : Value) (R : RO) : CallsR Tryz.prog 52 [.slice none 0 0, fv] R fun _ r => r = .tuple #[] := sortFuncNil Tryz.sortMv fv R
theorem eSortInts (xs : List Int) (hl : xs.length ≤ 1000000000) (R : RO) : CallsS Tryz.prog 46 [.sl 0 xs.length] [.row 3 1 (xs.map (.int .i64))] R fun R' bs r => R' = R ∧ bs = [.row 3 1 ((xs.mergeSort fun x y => decide (x ≤ y)).map (.int .i64))] ∧ r = .val (.tuple #[]) := sortIntsS Tryz.sortA 3 xs (by omega) R
theorem eCompactInts (xs : List Int) (hl : xs.length ≤ 1000000000) (R : RO) : CallsS Tryz.prog 47 [.sl 0 xs.length] [.row 3 1 (xs.map (.int .i64))] R fun R' bs r => R' = R ∧ bs = [.row 3 1 ((Lib.compact xs ++ List.replicate (xs.length - (Lib.compact xs).length) 0).map (.int .i64))] ∧ r = .sl 0 (Lib.compact xs).length := compactIntsS Tryz.compactA 3 xs (by omega) R
end Go.Proofs.YtpnhiknfcpkfbaaGreat
