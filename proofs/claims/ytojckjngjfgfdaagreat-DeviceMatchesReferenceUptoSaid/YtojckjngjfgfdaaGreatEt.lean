import Derived.Test.YtojckjngjfgfdaaGreatEs
import Derived.Test.YtojckjngjfgfdaaGreatSr
import Derived.Test.YtojckjngjfgfdaaGreatMp
import Derived.Test.YtojckjngjfgfdaaGreatNp
import Derived.Ground.SlsfProg
import Derived.Shelf.SortM.Plain
import Derived.Ground.SlgmProg
import Derived.Shelf.SlicesG.CompactI
import Derived.Ground.SlgnProg
namespace Go.Proofs.YtojckjngjfgfdaaGreat
set_option linter.unusedSimpArgs false
set_option linter.unusedVariables false
open Go.Proofs.YtojckjngjfgfdaaGreat.Vc Go.Shelf Go.Sort
def Tryz.sortEd_ren : Go.Shelf.Ren := ⟨fun | 6 => 106 | 15 => 122 | 14 => 125 | 28 => 146 | 29 => 147 | 20 => 156 | 21 => 157 | 22 => 158 | 23 => 159 | 24 => 160 | 25 => 161 | 26 => 162 | 27 => 163 | 46 => 185 | 47 => 178 | 48 => 179 | 49 => 186 | 50 => 187 | 57 => 211 | n => n, fun | 22 => 22 | 24 => 31 | 25 => 122 | 3 => 3 | 39 => 188 | 0 => 0 | 53 => 214 | 55 => 216 | 4 => 4 | 46 => 208 | 45 => 207 | 50 => 191 | 5 => 5 | 9 => 9 | 66 => 247 | 70 => 251 | 76 => 270 | 77 => 271 | n => n, fun | n => n⟩
theorem Tryz.sortEd : Go.Proofs.SlLaysF0.n6 Tryz.prog Tryz.sortEd_ren := {
  mixed := by kernel_rfl
  f6 := ⟨Tryz.f106.name, by decide, Tryz.func106.trans (congrArg some (by kernel_rfl))⟩
  f14 := ⟨Tryz.f125.name, by decide, Tryz.func125.trans (congrArg some (by kernel_rfl))⟩
  f15 := Tryz.func122.trans (congrArg some (by kernel_rfl))
  f20 := ⟨Tryz.f156.name, by decide, Tryz.func156.trans (congrArg some (by kernel_rfl))⟩
  f21 := ⟨Tryz.f157.name, by decide, Tryz.func157.trans (congrArg some (by kernel_rfl))⟩
  f22 := ⟨Tryz.f158.name, by decide, Tryz.func158.trans (congrArg some (by kernel_rfl))⟩
  f23 := ⟨Tryz.f159.name, by decide, Tryz.func159.trans (congrArg some (by kernel_rfl))⟩
  f24 := ⟨Tryz.f160.name, by decide, Tryz.func160.trans (congrArg some (by kernel_rfl))⟩
  f25 := ⟨Tryz.f161.name, by decide, Tryz.func161.trans (congrArg some (by kernel_rfl))⟩
  f26 := ⟨Tryz.f162.name, by decide, Tryz.func162.trans (congrArg some (by kernel_rfl))⟩
  f27 := ⟨Tryz.f163.name, by decide, Tryz.func163.trans (congrArg some (by kernel_rfl))⟩
  f28 := Tryz.func146.trans (congrArg some (by kernel_rfl))
  f29 := Tryz.func147.trans (congrArg some (by kernel_rfl))
  f46 := ⟨Tryz.f185.name, by decide, Tryz.func185.trans (congrArg some (by kernel_rfl))⟩
  f47 := Tryz.func178.trans (congrArg some (by kernel_rfl))
  f48 := Tryz.func179.trans (congrArg some (by kernel_rfl))
  f49 := ⟨Tryz.f186.name, by decide, Tryz.func186.trans (congrArg some (by kernel_rfl))⟩
  f50 := ⟨Tryz.f187.name, by decide, Tryz.func187.trans (congrArg some (by kernel_rfl))⟩
  f57 := ⟨Tryz.f211.name, by decide, Tryz.func211.trans (congrArg some (by kernel_rfl))⟩
  t0 := Tryz.underlying0
  a0 := Tryz.isAgg0
  z0 := Tryz.sizeOf0
  v0 := Tryz.zeroValue0
  t3 := Tryz.underlying3
  a3 := Tryz.isAgg3
  z3 := Tryz.sizeOf3
  v3 := Tryz.zeroValue3
  t4 := Tryz.underlying4
  a4 := Tryz.isAgg4
  z4 := Tryz.sizeOf4
  v4 := Tryz.zeroValue4
  t5 := Tryz.underlying5
  a5 := Tryz.isAgg5
  z5 := Tryz.sizeOf5
  v5 := Tryz.zeroValue5
  t9 := Tryz.underlying9
  a9 := Tryz.isAgg9
  z9 := Tryz.sizeOf9
  v9 := Tryz.zeroValue9
  t22 := Tryz.underlying22
  a22 := Tryz.isAgg22
  z22 := Tryz.sizeOf22
  v22 := Tryz.zeroValue22
  t25 := Tryz.underlying122
  a25 := Tryz.isAgg122
  z25 := Tryz.sizeOf122
  v25 := Tryz.zeroValue122
  t39 := Tryz.underlying188
  a39 := Tryz.isAgg188
  z39 := Tryz.sizeOf188
  v39 := Tryz.zeroValue188
  t45 := Tryz.underlying207
  a45 := Tryz.isAgg207
  z45 := Tryz.sizeOf207
  v45 := Tryz.zeroValue207
  t46 := Tryz.underlying208
  a46 := Tryz.isAgg208
  z46 := Tryz.sizeOf208
  v46 := Tryz.zeroValue208
  t50 := Tryz.underlying191
  a50 := Tryz.isAgg191
  z50 := Tryz.sizeOf191
  v50 := Tryz.zeroValue191
  t53 := Tryz.underlying214
  a53 := Tryz.isAgg214
  z53 := Tryz.sizeOf214
  v53 := Tryz.zeroValue214
  t55 := Tryz.underlying216
  a55 := Tryz.isAgg216
  z55 := Tryz.sizeOf216
  v55 := Tryz.zeroValue216
  t66 := Tryz.underlying247
  a66 := Tryz.isAgg247
  z66 := Tryz.sizeOf247
  v66 := Tryz.zeroValue247
  t70 := Tryz.underlying251
  a70 := Tryz.isAgg251
  z70 := Tryz.sizeOf251
  v70 := Tryz.zeroValue251
  t76 := Tryz.underlying270
  a76 := Tryz.isAgg270
  z76 := Tryz.sizeOf270
  v76 := Tryz.zeroValue270
  t77 := Tryz.underlying271
  a77 := Tryz.isAgg271
  z77 := Tryz.sizeOf271
  v77 := Tryz.zeroValue271 }
def Tryz.sortMv_ren : Go.Shelf.Ren := ⟨fun | 6 => 102 | 15 => 122 | 14 => 124 | 28 => 146 | 29 => 147 | 20 => 148 | 21 => 149 | 22 => 150 | 23 => 151 | 24 => 152 | 25 => 153 | 26 => 154 | 27 => 155 | 46 => 182 | 47 => 178 | 48 => 179 | 49 => 183 | 50 => 184 | 57 => 210 | n => n, fun | 22 => 50 | 24 => 27 | 25 => 169 | 3 => 3 | 39 => 188 | 0 => 0 | 53 => 214 | 55 => 216 | 4 => 4 | 46 => 208 | 45 => 207 | 50 => 191 | 5 => 5 | 9 => 9 | 66 => 247 | 70 => 251 | 76 => 270 | 77 => 271 | n => n, fun | n => n⟩
theorem Tryz.sortMv : Go.Proofs.SlLaysF0.n6 Tryz.prog Tryz.sortMv_ren := {
  mixed := by kernel_rfl
  f6 := ⟨Tryz.f102.name, by decide, Tryz.func102.trans (congrArg some (by kernel_rfl))⟩
  f14 := ⟨Tryz.f124.name, by decide, Tryz.func124.trans (congrArg some (by kernel_rfl))⟩
  f15 := Tryz.func122.trans (congrArg some (by kernel_rfl))
  f20 := ⟨Tryz.f148.name, by decide, Tryz.func148.trans (congrArg some (by kernel_rfl))⟩
  f21 := ⟨Tryz.f149.name, by decide, Tryz.func149.trans (congrArg some (by kernel_rfl))⟩
  f22 := ⟨Tryz.f150.name, by decide, Tryz.func150.trans (congrArg some (by kernel_rfl))⟩
  f23 := ⟨Tryz.f151.name, by decide, Tryz.func151.trans (congrArg some (by kernel_rfl))⟩
  f24 := ⟨Tryz.f152.name, by decide, Tryz.func152.trans (congrArg some (by kernel_rfl))⟩
  f25 := ⟨Tryz.f153.name, by decide, Tryz.func153.trans (congrArg some (by kernel_rfl))⟩
  f26 := ⟨Tryz.f154.name, by decide, Tryz.func154.trans (congrArg some (by kernel_rfl))⟩
  f27 := ⟨Tryz.f155.name, by decide, Tryz.func155.trans (congrArg some (by kernel_rfl))⟩
  f28 := Tryz.func146.trans (congrArg some (by kernel_rfl))
  f29 := Tryz.func147.trans (congrArg some (by kernel_rfl))
  f46 := ⟨Tryz.f182.name, by decide, Tryz.func182.trans (congrArg some (by kernel_rfl))⟩
  f47 := Tryz.func178.trans (congrArg some (by kernel_rfl))
  f48 := Tryz.func179.trans (congrArg some (by kernel_rfl))
  f49 := ⟨Tryz.f183.name, by decide, Tryz.func183.trans (congrArg some (by kernel_rfl))⟩
  f50 := ⟨Tryz.f184.name, by decide, Tryz.func184.trans (congrArg some (by kernel_rfl))⟩
  f57 := ⟨Tryz.f210.name, by decide, Tryz.func210.trans (congrArg some (by kernel_rfl))⟩
  t0 := Tryz.underlying0
  a0 := Tryz.isAgg0
  z0 := Tryz.sizeOf0
  v0 := Tryz.zeroValue0
  t3 := Tryz.underlying3
  a3 := Tryz.isAgg3
  z3 := Tryz.sizeOf3
  v3 := Tryz.zeroValue3
  t4 := Tryz.underlying4
  a4 := Tryz.isAgg4
  z4 := Tryz.sizeOf4
  v4 := Tryz.zeroValue4
  t5 := Tryz.underlying5
  a5 := Tryz.isAgg5
  z5 := Tryz.sizeOf5
  v5 := Tryz.zeroValue5
  t9 := Tryz.underlying9
  a9 := Tryz.isAgg9
  z9 := Tryz.sizeOf9
  v9 := Tryz.zeroValue9
  t22 := Tryz.underlying50
  a22 := Tryz.isAgg50
  z22 := Tryz.sizeOf50
  v22 := Tryz.zeroValue50
  t25 := Tryz.underlying169
  a25 := Tryz.isAgg169
  z25 := Tryz.sizeOf169
  v25 := Tryz.zeroValue169
  t39 := Tryz.underlying188
  a39 := Tryz.isAgg188
  z39 := Tryz.sizeOf188
  v39 := Tryz.zeroValue188
  t45 := Tryz.underlying207
  a45 := Tryz.isAgg207
  z45 := Tryz.sizeOf207
  v45 := Tryz.zeroValue207
  t46 := Tryz.underlying208
  a46 := Tryz.isAgg208
  z46 := Tryz.sizeOf208
  v46 := Tryz.zeroValue208
  t50 := Tryz.underlying191
  a50 := Tryz.isAgg191
  z50 := Tryz.sizeOf191
  v50 := Tryz.zeroValue191
  t53 := Tryz.underlying214
  a53 := Tryz.isAgg214
  z53 := Tryz.sizeOf214
  v53 := Tryz.zeroValue214
  t55 := Tryz.underlying216
  a55 := Tryz.isAgg216
  z55 := Tryz.sizeOf216
  v55 := Tryz.zeroValue216
  t66 := Tryz.underlying247
  a66 := Tryz.isAgg247
  z66 := Tryz.sizeOf247
  v66 := Tryz.zeroValue247
  t70 := Tryz.underlying251
  a70 := Tryz.isAgg251
  z70 := Tryz.sizeOf251
  v70 := Tryz.zeroValue251
  t76 := Tryz.underlying270
  a76 := Tryz.isAgg270
  z76 := Tryz.sizeOf270
  v76 := Tryz.zeroValue270
  t77 := Tryz.underlying271
  a77 := Tryz.isAgg271
  z77 := Tryz.sizeOf271
  v77 := Tryz.zeroValue271 }
def Tryz.sortA_ren : Go.Shelf.Ren := ⟨fun | 5 => 96 | 8 => 122 | 7 => 121 | 19 => 146 | 20 => 147 | 10 => 137 | 11 => 138 | 12 => 139 | 13 => 140 | 14 => 141 | 15 => 142 | 16 => 143 | 17 => 144 | 18 => 145 | 30 => 177 | 31 => 178 | 32 => 179 | 33 => 180 | 34 => 181 | 35 => 119 | 40 => 209 | n => n, fun | 23 => 95 | 25 => 3 | 3 => 3 | 32 => 188 | 22 => 95 | 0 => 0 | 44 => 214 | 46 => 216 | 4 => 4 | 36 => 208 | 35 => 207 | 41 => 191 | 5 => 5 | 9 => 9 | 53 => 247 | 57 => 251 | 63 => 270 | 64 => 271 | n => n, fun | n => n⟩
theorem Tryz.sortA : Go.Proofs.SlLaysM.n5 Tryz.prog Tryz.sortA_ren := {
  mixed := by kernel_rfl
  f5 := ⟨Tryz.f96.name, by decide, Tryz.func96.trans (congrArg some (by kernel_rfl))⟩
  f7 := ⟨Tryz.f121.name, by decide, Tryz.func121.trans (congrArg some (by kernel_rfl))⟩
  f8 := Tryz.func122.trans (congrArg some (by kernel_rfl))
  f10 := ⟨Tryz.f137.name, by decide, Tryz.func137.trans (congrArg some (by kernel_rfl))⟩
  f11 := ⟨Tryz.f138.name, by decide, Tryz.func138.trans (congrArg some (by kernel_rfl))⟩
  f12 := ⟨Tryz.f139.name, by decide, Tryz.func139.trans (congrArg some (by kernel_rfl))⟩
  f13 := ⟨Tryz.f140.name, by decide, Tryz.func140.trans (congrArg some (by kernel_rfl))⟩
  f14 := ⟨Tryz.f141.name, by decide, Tryz.func141.trans (congrArg some (by kernel_rfl))⟩
  f15 := ⟨Tryz.f142.name, by decide, Tryz.func142.trans (congrArg some (by kernel_rfl))⟩
  f16 := ⟨Tryz.f143.name, by decide, Tryz.func143.trans (congrArg some (by kernel_rfl))⟩
  f17 := ⟨Tryz.f144.name, by decide, Tryz.func144.trans (congrArg some (by kernel_rfl))⟩
  f18 := ⟨Tryz.f145.name, by decide, Tryz.func145.trans (congrArg some (by kernel_rfl))⟩
  f19 := Tryz.func146.trans (congrArg some (by kernel_rfl))
  f20 := Tryz.func147.trans (congrArg some (by kernel_rfl))
  f30 := ⟨Tryz.f177.name, by decide, Tryz.func177.trans (congrArg some (by kernel_rfl))⟩
  f31 := Tryz.func178.trans (congrArg some (by kernel_rfl))
  f32 := Tryz.func179.trans (congrArg some (by kernel_rfl))
  f33 := ⟨Tryz.f180.name, by decide, Tryz.func180.trans (congrArg some (by kernel_rfl))⟩
  f34 := ⟨Tryz.f181.name, by decide, Tryz.func181.trans (congrArg some (by kernel_rfl))⟩
  f35 := ⟨Tryz.f119.name, by decide, Tryz.func119.trans (congrArg some (by kernel_rfl))⟩
  f40 := ⟨Tryz.f209.name, by decide, Tryz.func209.trans (congrArg some (by kernel_rfl))⟩
  t0 := Tryz.underlying0
  a0 := Tryz.isAgg0
  z0 := Tryz.sizeOf0
  v0 := Tryz.zeroValue0
  t3 := Tryz.underlying3
  a3 := Tryz.isAgg3
  z3 := Tryz.sizeOf3
  v3 := Tryz.zeroValue3
  t4 := Tryz.underlying4
  a4 := Tryz.isAgg4
  z4 := Tryz.sizeOf4
  v4 := Tryz.zeroValue4
  t5 := Tryz.underlying5
  a5 := Tryz.isAgg5
  z5 := Tryz.sizeOf5
  v5 := Tryz.zeroValue5
  t9 := Tryz.underlying9
  a9 := Tryz.isAgg9
  z9 := Tryz.sizeOf9
  v9 := Tryz.zeroValue9
  t22 := Tryz.underlying95
  a22 := Tryz.isAgg95
  z22 := Tryz.sizeOf95
  v22 := Tryz.zeroValue95
  t23 := Tryz.underlying95
  a23 := Tryz.isAgg95
  z23 := Tryz.sizeOf95
  v23 := Tryz.zeroValue95
  t25 := Tryz.underlying3
  a25 := Tryz.isAgg3
  z25 := Tryz.sizeOf3
  v25 := Tryz.zeroValue3
  t32 := Tryz.underlying188
  a32 := Tryz.isAgg188
  z32 := Tryz.sizeOf188
  v32 := Tryz.zeroValue188
  t35 := Tryz.underlying207
  a35 := Tryz.isAgg207
  z35 := Tryz.sizeOf207
  v35 := Tryz.zeroValue207
  t36 := Tryz.underlying208
  a36 := Tryz.isAgg208
  z36 := Tryz.sizeOf208
  v36 := Tryz.zeroValue208
  t41 := Tryz.underlying191
  a41 := Tryz.isAgg191
  z41 := Tryz.sizeOf191
  v41 := Tryz.zeroValue191
  t44 := Tryz.underlying214
  a44 := Tryz.isAgg214
  z44 := Tryz.sizeOf214
  v44 := Tryz.zeroValue214
  t46 := Tryz.underlying216
  a46 := Tryz.isAgg216
  z46 := Tryz.sizeOf216
  v46 := Tryz.zeroValue216
  t53 := Tryz.underlying247
  a53 := Tryz.isAgg247
  z53 := Tryz.sizeOf247
  v53 := Tryz.zeroValue247
  t57 := Tryz.underlying251
  a57 := Tryz.isAgg251
  z57 := Tryz.sizeOf251
  v57 := Tryz.zeroValue251
  t63 := Tryz.underlying270
  a63 := Tryz.isAgg270
  z63 := Tryz.sizeOf270
  v63 := Tryz.zeroValue270
  t64 := Tryz.underlying271
  a64 := Tryz.isAgg271
  z64 := Tryz.sizeOf271
  v64 := Tryz.zeroValue271 }
def Tryz.compactA_ren : Go.Shelf.Ren := ⟨fun | 43 => 97 | n => n, fun | 22 => 95 | 23 => 3 | 3 => 3 | 4 => 4 | 0 => 0 | n => n, fun | n => n⟩
theorem Tryz.compactA : Go.Proofs.SlLaysN.n43 Tryz.prog Tryz.compactA_ren := {
  mixed := by kernel_rfl
  f43 := ⟨Tryz.f97.name, by decide, Tryz.func97.trans (congrArg some (by kernel_rfl))⟩
  t0 := Tryz.underlying0
  a0 := Tryz.isAgg0
  z0 := Tryz.sizeOf0
  v0 := Tryz.zeroValue0
  t3 := Tryz.underlying3
  a3 := Tryz.isAgg3
  z3 := Tryz.sizeOf3
  v3 := Tryz.zeroValue3
  t4 := Tryz.underlying4
  a4 := Tryz.isAgg4
  z4 := Tryz.sizeOf4
  v4 := Tryz.zeroValue4
  t22 := Tryz.underlying95
  a22 := Tryz.isAgg95
  z22 := Tryz.sizeOf95
  v22 := Tryz.zeroValue95
  t23 := Tryz.underlying3
  a23 := Tryz.isAgg3
  z23 := Tryz.sizeOf3
  v23 := Tryz.zeroValue3
  i23 := by kernel_rfl }
def cmpP (p q : Pl) : Int := cmpE p.ed q.ed
theorem ltP (p q : Pl) : ltOf cmpP p q = lessD p.1 q.1 := by
  unfold ltOf lessD cmpP
  simp only [cmpE_neg]
  rfl
theorem cmpP_swo : SWO (ltOf cmpP) := by
  refine ⟨fun x => ?_, fun x y z h k => ?_, fun x y z h k => ?_⟩
  · rw [ltP]; exact lessD_irrefl _
  · rw [ltP] at *; exact lessD_trans h k
  · rw [ltP] at *
    rw [lessD_false] at *; omega
theorem eSortEd (ps : List Pl) (hl : ps.length ≤ 1000000000) (R : RO) :
    CallsS Tryz.prog 106 [.sl 0 ps.length, .val (.func (.func 83) #[] #[])] [.row 31 13 (rowP ps)] R fun R' bs r =>
      R' = R ∧ ∃ qs : List Pl, qs.Perm ps ∧ (qs.Pairwise fun x y => lessD y.1 x.1 = false) ∧ bs = [.row 31 13 (rowP qs)] ∧ r = .val (.tuple #[]) := by
  have h := sortFuncS Tryz.sortEd 13 Tryz.isAgg31 Tryz.sizeOf31 (fun p : Pl => p.ed.cells) (fun _ => rfl) (fun p => edcells_one _) cmpP cmpP_swo 83 31
    (enters_of Tryz.func83 (by kernel_rfl) rfl) (fun x y => eCompareE x.ed y.ed _) ps (by omega) R
  simp only [ltP] at h
  exact h
theorem eSortEdNil (fv : Value) (R : RO) : CallsR Tryz.prog 106 [.slice none 0 0, fv] R fun _ r => r = .tuple #[] := sortFuncNil Tryz.sortEd fv R
theorem eMovesCmp (a b : Mv) (R : RO) : CallsR Tryz.prog 103 [a.val, b.val] R fun _ v => v = .int .i64 (cmpI a.day b.day) := by
  simp only [Mv.val]
  refine callsT mix Tryz.func103 comp103 (by simp [Tryz.ntmps103]) ?_; simp only [go_sem, ↓reduceIte, Nat.reduceEqDiff, Nat.reduceAdd, Nat.reduceMul, Nat.reduceLeDiff, Nat.reduceLT, Nat.reduceBNe, reduceCtorEq, vc103, rs103]
  refine vcall (eCompare a.day b.day R) ?_
  rintro R1 v h1 rfl
  try simp only [go_sem, ↓reduceIte, Nat.reduceEqDiff, Nat.reduceAdd, Nat.reduceMul, Nat.reduceLeDiff, Nat.reduceLT, Nat.reduceBNe, reduceCtorEq]
def rowM (ms : List Mv) : List Value := (ms.map Mv.cells).flatten
theorem rowM_len (os : List Mv) : (rowM os).length = os.length * 5 := by
  unfold rowM
  rw [length_flattenK (k := 5) (fun us hus => by obtain ⟨x, _, rfl⟩ := List.mem_map.1 hus; rfl)]
  simp
theorem rowM_snoc (os : List Mv) (o : Mv) : rowM (os ++ [o]) = rowM os ++ o.cells := by simp [rowM]
def cmpM (a b : Mv) : Int := cmpI a.day b.day
theorem mvcells_one (e : Mv) : ∀ v ∈ e.cells, v.oneCell' = true := by
  intro v hv
  simp only [Mv.cells, List.mem_cons, List.not_mem_nil, or_false] at hv
  rcases hv with rfl | rfl | rfl | rfl | rfl <;> rfl
instance : Inhabited Mv := ⟨⟨0, false, 0, 0, 0⟩⟩
theorem ltM (p q : Mv) : ltOf cmpM p q = decide (p.day < q.day) := by
  unfold ltOf cmpM cmpI
  split
  · simp [*]
  · split <;> simp <;> omega
theorem cmpM_swo : SWO (ltOf cmpM) := by
  refine ⟨fun x => ?_, fun x y z h k => ?_, fun x y z h k => ?_⟩
  · rw [ltM]; simp
  · rw [ltM] at *; simp at *; omega
  · rw [ltM] at *; simp at *; omega
theorem eSortMv (ms : List Mv) (hl : ms.length ≤ 1000000000) (R : RO) :
    CallsS Tryz.prog 102 [.sl 0 ms.length, .val (.func (.func 103) #[] #[])] [.row 27 5 (rowM ms)] R fun R' bs r =>
      R' = R ∧ ∃ qs : List Mv, qs.Perm ms ∧ (qs.Pairwise fun x y => x.day ≤ y.day) ∧ bs = [.row 27 5 (rowM qs)] ∧ r = .val (.tuple #[]) := by
  have h := sortFuncS Tryz.sortMv 5 Tryz.isAgg27 Tryz.sizeOf27 Mv.cells (fun _ => rfl) mvcells_one cmpM cmpM_swo 103 27
    (enters_of Tryz.func103 (by kernel_rfl) rfl) (fun x y => eMovesCmp x y _) ms (by omega) R
  simp only [ltM, decide_eq_false_iff_not, Int.not_lt] at h
  exact h
theorem eSortMvNil (fv : Value) (R : RO) : CallsR Tryz.prog 102 [.slice none 0 0, fv] R fun _ r => r = .tuple #[] := sortFuncNil Tryz.sortMv fv R
theorem eSortInts (xs : List Int) (hl : xs.length ≤ 1000000000) (R : RO) : CallsS Tryz.prog 96 [.sl 0 xs.length] [.row 3 1 (xs.map (.int .i64))] R fun R' bs r => R' = R ∧ bs = [.row 3 1 ((xs.mergeSort fun x y => decide (x ≤ y)).map (.int .i64))] ∧ r = .val (.tuple #[]) := sortIntsS Tryz.sortA 3 xs (by omega) R
theorem eCompactInts (xs : List Int) (hl : xs.length ≤ 1000000000) (R : RO) : CallsS Tryz.prog 97 [.sl 0 xs.length] [.row 3 1 (xs.map (.int .i64))] R fun R' bs r => R' = R ∧ bs = [.row 3 1 ((Lib.compact xs ++ List.replicate (xs.length - (Lib.compact xs).length) 0).map (.int .i64))] ∧ r = .sl 0 (Lib.compact xs).length := compactIntsS Tryz.compactA 3 xs (by omega) R
end Go.Proofs.YtojckjngjfgfdaaGreat
