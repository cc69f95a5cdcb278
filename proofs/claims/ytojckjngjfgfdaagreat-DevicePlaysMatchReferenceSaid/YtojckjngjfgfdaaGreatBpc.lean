/- Lemmas of our own, no statement of the seat; the last one of the claim's texts proves the law. -/
import Derived.Ground.SlsfProg
import Derived.Shelf.SortM.Plain
import Derived.Ground.SlgmProg
import Derived.Shelf.SlicesG.CompactI
import Derived.Ground.SlgnProg
import Derived.Test.YtojckjngjfgfdaaGreatBpb
import Derived.Test.YtojckjngjfgfdaaGreatVcI
open Nat renaming reduceEqDiff → nQ1, reduceAdd → nQ2, reduceMul → nQ3, reduceLeDiff → nQ4, reduceLT → nQ5, reduceBNe → nQ6
open Int renaming reduceLE → iQ1, reduceLT → iQ2, reduceToNat → iQ3, cast_ofNat_Int → iQ4, reduceEq → iQ5, reduceNe → iQ6
namespace Go.Proofs.YtojckjngjfgfdaaGreat
set_option linter.unusedSimpArgs false
set_option linter.unusedVariables false
open Go.Proofs.YtojckjngjfgfdaaGreat.Vc Go.Shelf Go.Sort
def Tryz.sortEd_ren : Go.Shelf.Ren := ⟨fun | 6 => 106 | 15 => 122 | 14 => 125 | 28 => 146 | 29 => 147 | 20 => 156 | 21 => 157 | 22 => 158 | 23 => 159 | 24 => 160 | 25 => 161 | 26 => 162 | 27 => 163 | 46 => 185 | 47 => 178 | 48 => 179 | 49 => 186 | 50 => 187 | 57 => 211 | n => n, fun | 22 => 22 | 24 => 31 | 25 => 122 | 3 => 3 | 39 => 188 | 0 => 0 | 53 => 214 | 55 => 216 | 4 => 4 | 46 => 208 | 45 => 207 | 50 => 191 | 5 => 5 | 9 => 9 | 66 => 247 | 70 => 251 | 76 => 270 | 77 => 271 | n => n, fun | n => n⟩
theorem Tryz.sortEd : Go.Proofs.SlLaysF0.n6 Tryz.prog Tryz.sortEd_ren := {
 mixed := by kernel_rfl
 f6 := ⟨Tryz.f106.name, by decide, Tryz.func106.trans (congrArg some (by kernel_rfl))⟩
 f14 := ⟨Tryz.f125.name, by decide, Tryz.func125.trans (congrArg some (by kernel_rfl))⟩
 f15 := Tryz.func122.trans (congrArg some (by kernel_rfl))
 f20 := ⟨Tryz.f156.name, by decide, Tryz.func156.trans (congrArg some (by kernel_rfl))⟩
 f21 := ⟨Tryz.f157.name, by decide, Tryz.func157.trans (congrArg some (by kernel_rfl))⟩
 f22 := ⟨Tryz.f158.name, by decide, Tryz.func158.trans (congrArg some (by kernel_rfl))⟩
 f23 := ⟨Tryz.f159.name, by decide, Tryz.func159.trans (congrArg some (by kernel_rfl))⟩
 f24 := ⟨Tryz.f160.name, by decide, Tryz.func160.trans (congrArg some (by kernel_rfl))⟩
 f25 := ⟨Tryz.f161.name, by decide, Tryz.func161.trans (congrArg some (by kernel_rfl))⟩
 f26 := ⟨Tryz.f162.name, by decide, Tryz.func162.trans (congrArg some (by kernel_rfl))⟩
 f27 := ⟨Tryz.f163.name, by decide, Tryz.func163.trans (congrArg some (by kernel_rfl))⟩
 f28 := Tryz.func146.trans (congrArg some (by kernel_rfl))
 f29 := Tryz.func147.trans (congrArg some (by kernel_rfl))
 f46 := ⟨Tryz.f185.name, by decide, Tryz.func185.trans (congrArg some (by kernel_rfl))⟩
 f47 := Tryz.func178.trans (congrArg some (by kernel_rfl))
 f48 := Tryz.func179.trans (congrArg some (by kernel_rfl))
 f49 := ⟨Tryz.f186.name, by decide, Tryz.func186.trans (congrArg some (by kernel_rfl))⟩
 f50 := ⟨Tryz.f187.name, by decide, Tryz.func187.trans (congrArg some (by kernel_rfl))⟩
 f57 := ⟨Tryz.f211.name, by decide, Tryz.func211.trans (congrArg some (by kernel_rfl))⟩
 t0 := Tryz.underlying0
 a0 := Tryz.isAgg0
 z0 := Tryz.sizeOf0
 v0 := Tryz.zeroValue0
 t3 := Tryz.underlying3
 a3 := Tryz.isAgg3
 z3 := Tryz.sizeOf3
 v3 := Tryz.zeroValue3
 t4 := Tryz.underlying4
 a4 := Tryz.isAgg4
 z4 := Tryz.sizeOf4
 v4 := Tryz.zeroValue4
 t5 := Tryz.underlying5
 a5 := Tryz.isAgg5
 z5 := Tryz.sizeOf5
 v5 := Tryz.zeroValue5
 t9 := Tryz.underlying9
 a9 := Tryz.isAgg9
 z9 := Tryz.sizeOf9
 v9 := Tryz.zeroValue9
 t22 := Tryz.underlying22
 a22 := Tryz.isAgg22
 z22 := Tryz.sizeOf22
 v22 := Tryz.zeroValue22
 t25 := Tryz.underlying122
 a25 := Tryz.isAgg122
 z25 := Tryz.sizeOf122
 v25 := Tryz.zeroValue122
 t39 := Tryz.underlying188
 a39 := Tryz.isAgg188
 z39 := Tryz.sizeOf188
 v39 := Tryz.zeroValue188
 t45 := Tryz.underlying207
 a45 := Tryz.isAgg207
 z45 := Tryz.sizeOf207
 v45 := Tryz.zeroValue207
 t46 := Tryz.underlying208
 a46 := Tryz.isAgg208
 z46 := Tryz.sizeOf208
 v46 := Tryz.zeroValue208
 t50 := Tryz.underlying191
 a50 := Tryz.isAgg191
 z50 := Tryz.sizeOf191
 v50 := Tryz.zeroValue191
 t53 := Tryz.underlying214
 a53 := Tryz.isAgg214
 z53 := Tryz.sizeOf214
 v53 := Tryz.zeroValue214
 t55 := Tryz.underlying216
 a55 := Tryz.isAgg216
 z55 := Tryz.sizeOf216
 v55 := Tryz.zeroValue216
 t66 := Tryz.underlying247
 a66 := Tryz.isAgg247
 z66 := Tryz.sizeOf247
 v66 := Tryz.zeroValue247
 t70 := Tryz.underlying251
 a70 := Tryz.isAgg251
 z70 := Tryz.sizeOf251
 v70 := Tryz.zeroValue251
 t76 := Tryz.underlying270
 a76 := Tryz.isAgg270
 z76 := Tryz.sizeOf270
 v76 := Tryz.zeroValue270
 t77 := Tryz.underlying271
 a77 := Tryz.isAgg271
 z77 := Tryz.sizeOf271
 v77 := Tryz.zeroValue271 }
def Tryz.sortMv_ren : Go.Shelf.Ren := ⟨fun | 6 => 102 | 15 => 122 | 14 => 124 | 28 => 146 | 29 => 147 | 20 => 148 | 21 => 149 | 22 => 150 | 23 => 151 | 24 => 152 | 25 => 153 | 26 => 154 | 27 => 155 | 46 => 182 | 47 => 178 | 48 => 179 | 49 => 183 | 50 => 184 | 57 => 210 | n => n, fun | 22 => 50 | 24 => 27 | 25 => 169 | 3 => 3 | 39 => 188 | 0 => 0 | 53 => 214 | 55 => 216 | 4 => 4 | 46 => 208 | 45 => 207 | 50 => 191 | 5 => 5 | 9 => 9 | 66 => 247 | 70 => 251 | 76 => 270 | 77 => 271 | n => n, fun | n => n⟩
theorem Tryz.sortMv : Go.Proofs.SlLaysF0.n6 Tryz.prog Tryz.sortMv_ren := {
 mixed := by kernel_rfl
 f6 := ⟨Tryz.f102.name, by decide, Tryz.func102.trans (congrArg some (by kernel_rfl))⟩
 f14 := ⟨Tryz.f124.name, by decide, Tryz.func124.trans (congrArg some (by kernel_rfl))⟩
 f15 := Tryz.func122.trans (congrArg some (by kernel_rfl))
 f20 := ⟨Tryz.f148.name, by decide, Tryz.func148.trans (congrArg some (by kernel_rfl))⟩
 f21 := ⟨Tryz.f149.name, by decide, Tryz.func149.trans (congrArg some (by kernel_rfl))⟩
 f22 := ⟨Tryz.f150.name, by decide, Tryz.func150.trans (congrArg some (by kernel_rfl))⟩
 f23 := ⟨Tryz.f151.name, by decide, Tryz.func151.trans (congrArg some (by kernel_rfl))⟩
 f24 := ⟨Tryz.f152.name, by decide, Tryz.func152.trans (congrArg some (by kernel_rfl))⟩
 f25 := ⟨Tryz.f153.name, by decide, Tryz.func153.trans (congrArg some (by kernel_rfl))⟩
 f26 := ⟨Tryz.f154.name, by decide, Tryz.func154.trans (congrArg some (by kernel_rfl))⟩
 f27 := ⟨Tryz.f155.name, by decide, Tryz.func155.trans (congrArg some (by kernel_rfl))⟩
 f28 := Tryz.func146.trans (congrArg some (by kernel_rfl))
 f29 := Tryz.func147.trans (congrArg some (by kernel_rfl))
 f46 := ⟨Tryz.f182.name, by decide, Tryz.func182.trans (congrArg some (by kernel_rfl))⟩
 f47 := Tryz.func178.trans (congrArg some (by kernel_rfl))
 f48 := Tryz.func179.trans (congrArg some (by kernel_rfl))
 f49 := ⟨Tryz.f183.name, by decide, Tryz.func183.trans (congrArg some (by kernel_rfl))⟩
 f50 := ⟨Tryz.f184.name, by decide, Tryz.func184.trans (congrArg some (by kernel_rfl))⟩
 f57 := ⟨Tryz.f210.name, by decide, Tryz.func210.trans (congrArg some (by kernel_rfl))⟩
 t0 := Tryz.underlying0
 a0 := Tryz.isAgg0
 z0 := Tryz.sizeOf0
 v0 := Tryz.zeroValue0
 t3 := Tryz.underlying3
 a3 := Tryz.isAgg3
 z3 := Tryz.sizeOf3
 v3 := Tryz.zeroValue3
 t4 := Tryz.underlying4
 a4 := Tryz.isAgg4
 z4 := Tryz.sizeOf4
 v4 := Tryz.zeroValue4
 t5 := Tryz.underlying5
 a5 := Tryz.isAgg5
 z5 := Tryz.sizeOf5
 v5 := Tryz.zeroValue5
 t9 := Tryz.underlying9
 a9 := Tryz.isAgg9
 z9 := Tryz.sizeOf9
 v9 := Tryz.zeroValue9
 t22 := Tryz.underlying50
 a22 := Tryz.isAgg50
 z22 := Tryz.sizeOf50
 v22 := Tryz.zeroValue50
 t25 := Tryz.underlying169
 a25 := Tryz.isAgg169
 z25 := Tryz.sizeOf169
 v25 := Tryz.zeroValue169
 t39 := Tryz.underlying188
 a39 := Tryz.isAgg188
 z39 := Tryz.sizeOf188
 v39 := Tryz.zeroValue188
 t45 := Tryz.underlying207
 a45 := Tryz.isAgg207
 z45 := Tryz.sizeOf207
 v45 := Tryz.zeroValue207
 t46 := Tryz.underlying208
 a46 := Tryz.isAgg208
 z46 := Tryz.sizeOf208
 v46 := Tryz.zeroValue208
 t50 := Tryz.underlying191
 a50 := Tryz.isAgg191
 z50 := Tryz.sizeOf191
 v50 := Tryz.zeroValue191
 t53 := Tryz.underlying214
 a53 := Tryz.isAgg214
 z53 := Tryz.sizeOf214
 v53 := Tryz.zeroValue214
 t55 := Tryz.underlying216
 a55 := Tryz.isAgg216
 z55 := Tryz.sizeOf216
 v55 := Tryz.zeroValue216
 t66 := Tryz.underlying247
 a66 := Tryz.isAgg247
 z66 := Tryz.sizeOf247
 v66 := Tryz.zeroValue247
 t70 := Tryz.underlying251
 a70 := Tryz.isAgg251
 z70 := Tryz.sizeOf251
 v70 := Tryz.zeroValue251
 t76 := Tryz.underlying270
 a76 := Tryz.isAgg270
 z76 := Tryz.sizeOf270
 v76 := Tryz.zeroValue270
 t77 := Tryz.underlying271
 a77 := Tryz.isAgg271
 z77 := Tryz.sizeOf271
 v77 := Tryz.zeroValue271 }
def Tryz.sortA_ren : Go.Shelf.Ren := ⟨fun | 5 => 96 | 8 => 122 | 7 => 121 | 19 => 146 | 20 => 147 | 10 => 137 | 11 => 138 | 12 => 139 | 13 => 140 | 14 => 141 | 15 => 142 | 16 => 143 | 17 => 144 | 18 => 145 | 30 => 177 | 31 => 178 | 32 => 179 | 33 => 180 | 34 => 181 | 35 => 119 | 40 => 209 | n => n, fun | 23 => 95 | 25 => 3 | 3 => 3 | 32 => 188 | 22 => 95 | 0 => 0 | 44 => 214 | 46 => 216 | 4 => 4 | 36 => 208 | 35 => 207 | 41 => 191 | 5 => 5 | 9 => 9 | 53 => 247 | 57 => 251 | 63 => 270 | 64 => 271 | n => n, fun | n => n⟩
theorem Tryz.sortA : Go.Proofs.SlLaysM.n5 Tryz.prog Tryz.sortA_ren := {
 mixed := by kernel_rfl
 f5 := ⟨Tryz.f96.name, by decide, Tryz.func96.trans (congrArg some (by kernel_rfl))⟩
 f7 := ⟨Tryz.f121.name, by decide, Tryz.func121.trans (congrArg some (by kernel_rfl))⟩
 f8 := Tryz.func122.trans (congrArg some (by kernel_rfl))
 f10 := ⟨Tryz.f137.name, by decide, Tryz.func137.trans (congrArg some (by kernel_rfl))⟩
 f11 := ⟨Tryz.f138.name, by decide, Tryz.func138.trans (congrArg some (by kernel_rfl))⟩
 f12 := ⟨Tryz.f139.name, by decide, Tryz.func139.trans (congrArg some (by kernel_rfl))⟩
 f13 := ⟨Tryz.f140.name, by decide, Tryz.func140.trans (congrArg some (by kernel_rfl))⟩
 f14 := ⟨Tryz.f141.name, by decide, Tryz.func141.trans (congrArg some (by kernel_rfl))⟩
 f15 := ⟨Tryz.f142.name, by decide, Tryz.func142.trans (congrArg some (by kernel_rfl))⟩
 f16 := ⟨Tryz.f143.name, by decide, Tryz.func143.trans (congrArg some (by kernel_rfl))⟩
 f17 := ⟨Tryz.f144.name, by decide, Tryz.func144.trans (congrArg some (by kernel_rfl))⟩
 f18 := ⟨Tryz.f145.name, by decide, Tryz.func145.trans (congrArg some (by kernel_rfl))⟩
 f19 := Tryz.func146.trans (congrArg some (by kernel_rfl))
 f20 := Tryz.func147.trans (congrArg some (by kernel_rfl))
 f30 := ⟨Tryz.f177.name, by decide, Tryz.func177.trans (congrArg some (by kernel_rfl))⟩
 f31 := Tryz.func178.trans (congrArg some (by kernel_rfl))
 f32 := Tryz.func179.trans (congrArg some (by kernel_rfl))
 f33 := ⟨Tryz.f180.name, by decide, Tryz.func180.trans (congrArg some (by kernel_rfl))⟩
 f34 := ⟨Tryz.f181.name, by decide, Tryz.func181.trans (congrArg some (by kernel_rfl))⟩
 f35 := ⟨Tryz.f119.name, by decide, Tryz.func119.trans (congrArg some (by kernel_rfl))⟩
 f40 := ⟨Tryz.f209.name, by decide, Tryz.func209.trans (congrArg some (by kernel_rfl))⟩
 t0 := Tryz.underlying0
 a0 := Tryz.isAgg0
 z0 := Tryz.sizeOf0
 v0 := Tryz.zeroValue0
 t3 := Tryz.underlying3
 a3 := Tryz.isAgg3
 z3 := Tryz.sizeOf3
 v3 := Tryz.zeroValue3
 t4 := Tryz.underlying4
 a4 := Tryz.isAgg4
 z4 := Tryz.sizeOf4
 v4 := Tryz.zeroValue4
 t5 := Tryz.underlying5
 a5 := Tryz.isAgg5
 z5 := Tryz.sizeOf5
 v5 := Tryz.zeroValue5
 t9 := Tryz.underlying9
 a9 := Tryz.isAgg9
 z9 := Tryz.sizeOf9
 v9 := Tryz.zeroValue9
 t22 := Tryz.underlying95
 a22 := Tryz.isAgg95
 z22 := Tryz.sizeOf95
 v22 := Tryz.zeroValue95
 t23 := Tryz.underlying95
 a23 := Tryz.isAgg95
 z23 := Tryz.sizeOf95
 v23 := Tryz.zeroValue95
 t25 := Tryz.underlying3
 a25 := Tryz.isAgg3
 z25 := Tryz.sizeOf3
 v25 := Tryz.zeroValue3
 t32 := Tryz.underlying188
 a32 := Tryz.isAgg188
 z32 := Tryz.sizeOf188
 v32 := Tryz.zeroValue188
 t35 := Tryz.underlying207
 a35 := Tryz.isAgg207
 z35 := Tryz.sizeOf207
 v35 := Tryz.zeroValue207
 t36 := Tryz.underlying208
 a36 := Tryz.isAgg208
 z36 := Tryz.sizeOf208
 v36 := Tryz.zeroValue208
 t41 := Tryz.underlying191
 a41 := Tryz.isAgg191
 z41 := Tryz.sizeOf191
 v41 := Tryz.zeroValue191
 t44 := Tryz.underlying214
 a44 := Tryz.isAgg214
 z44 := Tryz.sizeOf214
 v44 := Tryz.zeroValue214
 t46 := Tryz.underlying216
 a46 := Tryz.isAgg216
 z46 := Tryz.sizeOf216
 v46 := Tryz.zeroValue216
 t53 := Tryz.underlying247
 a53 := Tryz.isAgg247
 z53 := Tryz.sizeOf247
 v53 := Tryz.zeroValue247
 t57 := Tryz.underlying251
 a57 := Tryz.isAgg251
 z57 := Tryz.sizeOf251
 v57 := Tryz.zeroValue251
 t63 := Tryz.underlying270
 a63 := Tryz.isAgg270
 z63 := Tryz.sizeOf270
 v63 := Tryz.zeroValue270
 t64 := Tryz.underlying271
 a64 := Tryz.isAgg271
 z64 := Tryz.sizeOf271
 v64 := Tryz.zeroValue271 }
def Tryz.compactA_ren : Go.Shelf.Ren := ⟨fun | 43 => 97 | n => n, fun | 22 => 95 | 23 => 3 | 3 => 3 | 4 => 4 | 0 => 0 | n => n, fun | n => n⟩
theorem Tryz.compactA : Go.Proofs.SlLaysN.n43 Tryz.prog Tryz.compactA_ren := {
 mixed := by kernel_rfl
 f43 := ⟨Tryz.f97.name, by decide, Tryz.func97.trans (congrArg some (by kernel_rfl))⟩
 t0 := Tryz.underlying0
 a0 := Tryz.isAgg0
 z0 := Tryz.sizeOf0
 v0 := Tryz.zeroValue0
 t3 := Tryz.underlying3
 a3 := Tryz.isAgg3
 z3 := Tryz.sizeOf3
 v3 := Tryz.zeroValue3
 t4 := Tryz.underlying4
 a4 := Tryz.isAgg4
 z4 := Tryz.sizeOf4
 v4 := Tryz.zeroValue4
 t22 := Tryz.underlying95
 a22 := Tryz.isAgg95
 z22 := Tryz.sizeOf95
 v22 := Tryz.zeroValue95
 t23 := Tryz.underlying3
 a23 := Tryz.isAgg3
 z23 := Tryz.sizeOf3
 v23 := Tryz.zeroValue3
 i23 := by kernel_rfl }
def cmpP (p q : Pl) : Int := cmpE p.ed q.ed
theorem ltP (p q : Pl) : ltOf cmpP p q = lessD p.1 q.1 := by
 unfold ltOf lessD cmpP
 simp only [cmpE_neg]
 rfl
theorem cmpP_swo : SWO (ltOf cmpP) := by
 refine ⟨fun x => ?_, fun x y z h k => ?_, fun x y z h k => ?_⟩
 ·rw [ltP]; exact lessD_irrefl _
 ·rw [ltP] at *; exact lessD_trans h k
 ·rw [ltP] at *
  rw [lessD_false] at *; omega
theorem eSortEd (ps : List Pl) (hl : ps.length ≤ 1000000000) (R : RO) :
  CallsS Tryz.prog 106 [.sl 0 ps.length, .val (.func (.func 83) #[] #[])] [.row 31 13 (rowP ps)] R fun R' bs r =>
   R' = R ∧ ∃ qs : List Pl, qs.Perm ps ∧ (qs.Pairwise fun x y => lessD y.1 x.1 = false) ∧ bs = [.row 31 13 (rowP qs)] ∧ r = .val (.tuple #[]) := by
 have h := sortFuncS Tryz.sortEd 13 Tryz.isAgg31 Tryz.sizeOf31 (fun p : Pl => p.ed.cells) (fun _ => rfl) (fun p => edcells_one _) cmpP cmpP_swo 83 31
  (enters_of Tryz.func83 (by kernel_rfl) rfl) (fun x y => eCompareE x.ed y.ed _) ps (by omega) R
 simp only [ltP] at h
 exact h
theorem eSortEdNil (fv : Value) (R : RO) : CallsR Tryz.prog 106 [.slice none 0 0, fv] R fun _ r => r = .tuple #[] := sortFuncNil Tryz.sortEd fv R
theorem eMovesCmp (a b : Mv) (R : RO) : CallsR Tryz.prog 103 [a.val, b.val] R fun _ v => v = .int .i64 (cmpI a.day b.day) := by
 simp only [Mv.val]
 refine callsT mix Tryz.func103 comp103 (by simp [Tryz.ntmps103]) ?_; simp only [go_sem, ↓reduceIte, nQ1, nQ2, nQ3, nQ4, nQ5, nQ6, reduceCtorEq, vc103, rs103]
 refine vcall (eCompare a.day b.day R) ?_
 rintro R1 v h1 rfl
 try simp only [go_sem, ↓reduceIte, nQ1, nQ2, nQ3, nQ4, nQ5, nQ6, reduceCtorEq]
def rowM (ms : List Mv) : List Value := (ms.map Mv.cells).flatten
theorem rowM_len (os : List Mv) : (rowM os).length = os.length * 5 := by
 unfold rowM
 rw [length_flattenK (k := 5) (fun us hus => by obtain ⟨x, _, rfl⟩ := List.mem_map.1 hus; rfl)]
 simp
theorem rowM_snoc (os : List Mv) (o : Mv) : rowM (os ++ [o]) = rowM os ++ o.cells := by simp [rowM]
def cmpM (a b : Mv) : Int := cmpI a.day b.day
theorem mvcells_one (e : Mv) : ∀ v ∈ e.cells, v.oneCell' = true := by
 intro v hv
 simp only [Mv.cells, List.mem_cons, List.not_mem_nil, or_false] at hv
 rcases hv with rfl | rfl | rfl | rfl | rfl <;> rfl
instance : Inhabited Mv := ⟨⟨0, false, 0, 0, 0⟩⟩
theorem ltM (p q : Mv) : ltOf cmpM p q = decide (p.day < q.day) := by
 unfold ltOf cmpM cmpI
 split
 ·simp [*]
 ·split <;> simp <;> omega
theorem cmpM_swo : SWO (ltOf cmpM) := by
 refine ⟨fun x => ?_, fun x y z h k => ?_, fun x y z h k => ?_⟩
 ·rw [ltM]; simp
 ·rw [ltM] at *; simp at *; omega
 ·rw [ltM] at *; simp at *; omega
theorem eSortMv (ms : List Mv) (hl : ms.length ≤ 1000000000) (R : RO) :
  CallsS Tryz.prog 102 [.sl 0 ms.length, .val (.func (.func 103) #[] #[])] [.row 27 5 (rowM ms)] R fun R' bs r =>
   R' = R ∧ ∃ qs : List Mv, qs.Perm ms ∧ (qs.Pairwise fun x y => x.day ≤ y.day) ∧ bs = [.row 27 5 (rowM qs)] ∧ r = .val (.tuple #[]) := by
 have h := sortFuncS Tryz.sortMv 5 Tryz.isAgg27 Tryz.sizeOf27 Mv.cells (fun _ => rfl) mvcells_one cmpM cmpM_swo 103 27
  (enters_of Tryz.func103 (by kernel_rfl) rfl) (fun x y => eMovesCmp x y _) ms (by omega) R
 simp only [ltM, decide_eq_false_iff_not, Int.not_lt] at h
 exact h
theorem eSortMvNil (fv : Value) (R : RO) : CallsR Tryz.prog 102 [.slice none 0 0, fv] R fun _ r => r = .tuple #[] := sortFuncNil Tryz.sortMv fv R
theorem eSortInts (xs : List Int) (hl : xs.length ≤ 1000000000) (R : RO) : CallsS Tryz.prog 96 [.sl 0 xs.length] [.row 3 1 (xs.map (.int .i64))] R fun R' bs r => R' = R ∧ bs = [.row 3 1 ((xs.mergeSort fun x y => decide (x ≤ y)).map (.int .i64))] ∧ r = .val (.tuple #[]) := sortIntsS Tryz.sortA 3 xs (by omega) R
theorem eCompactInts (xs : List Int) (hl : xs.length ≤ 1000000000) (R : RO) : CallsS Tryz.prog 97 [.sl 0 xs.length] [.row 3 1 (xs.map (.int .i64))] R fun R' bs r => R' = R ∧ bs = [.row 3 1 ((Lib.compact xs ++ List.replicate (xs.length - (Lib.compact xs).length) 0).map (.int .i64))] ∧ r = .sl 0 (Lib.compact xs).length := compactIntsS Tryz.compactA 3 xs (by omega) R
end Go.Proofs.YtojckjngjfgfdaaGreat
namespace Go.Proofs.YtojckjngjfgfdaaGreat
set_option linter.unusedSimpArgs false
set_option linter.unusedVariables false
open Go.Proofs.YtojckjngjfgfdaaGreat.Vc
theorem PlOK.of {R : RO} {ds : List De} {v : Value} (h : EdsV R v ds) : ∃ a cap, v = .slice a ds.length cap ∧ ds.length ≤ cap ∧ ∀ i (hi : i < ds.length), ∃ ad p, a = some ad ∧ p.1 = ds[i] ∧ (∀ j u, (p.ed.cells)[j]? = some u → R ((ad.add (i * 13)).add j) u) ∧ PlOK R p := by
 obtain ⟨a, cap, rfl, hc, hf⟩ := h.form
 refine ⟨a, cap, rfl, hc, fun i hi => ?_⟩
 obtain ⟨ad, ra, rn, rc, had, hR, hr⟩ := hf i hi
 exact ⟨ad, (ds[i], ra, rn, rc), had, rfl, hR, hr⟩
theorem EdsV.row {R : RO} {b cap : Nat} {ps : List Pl} (h : RowIn R b (rowP ps)) (hc : (rowP ps).length ≤ cap * 13) (hp : ∀ p ∈ ps, PlOK R p) (hl : ps.length ≤ 1000000000) : EdsV R (.slice (some ⟨b, 0, none⟩) ps.length cap) (ps.map (·.1)) := by
 have h1 := RowIn.slK h (cellsP_len ps) (by omega) hc
 rw [List.length_map] at h1
 refine ⟨_, h1, by simp, fun i c d hi hd => ?_, by simpa using hl⟩
 rw [List.getElem?_map] at hi hd
 obtain ⟨p, hp', rfl⟩ := Option.map_eq_some_iff.1 hi
 rw [hp'] at hd
 simp only [Option.map_some, Option.some.injEq] at hd
 subst hd
 exact (hp p (List.mem_of_getElem? hp')).edV
theorem EdsV.pls {R : RO} {v : Value} {ds : List De} (h : EdsV R v ds) : ∃ (a : Option Addr) (cap : Nat) (ps : List Pl), v = .slice a ds.length cap ∧ ds.length ≤ cap ∧ ps.map (·.1) = ds ∧ (∀ p ∈ ps, PlOK R p) ∧ (rowP ps ≠ [] → ∃ ad, a = some ad ∧ ∀ i v, (rowP ps)[i]? = some v → R (ad.add i) v) := by
 obtain ⟨a, cap, rfl, hc, hf⟩ := PlOK.of h
 let f : Nat → Pl := fun i => if h : i < ds.length then (hf i h).choose_spec.choose else default
 have hfi : ∀ i (hi : i < ds.length), ∃ ad, a = some ad ∧ (f i).1 = ds[i] ∧ (∀ j u, ((f i).ed.cells)[j]? = some u → R ((ad.add (i * 13)).add j) u) ∧ PlOK R (f i) := fun i hi => by
  refine ⟨(hf i hi).choose, ?_⟩
  have hs := (hf i hi).choose_spec.choose_spec
  simp only [f, hi, dif_pos]
  exact hs
 refine ⟨a, cap, (List.range ds.length).map f, rfl, hc, ?_, fun p hp => ?_, fun hne => ?_⟩
 ·apply List.ext_getElem
  ·simp
  ·intro i h1 h2
   obtain ⟨_, _, h3, _⟩ := hfi i h2
   simpa using h3
 ·obtain ⟨i, hi, rfl⟩ := List.mem_map.1 hp
  obtain ⟨_, _, _, _, h4⟩ := hfi i (List.mem_range.1 hi)
  exact h4
 ·have hl : 0 < ds.length := by
   have h1 := rowP_len ((List.range ds.length).map f)
   have h2 := List.length_pos_iff.2 hne
   simp at h1
   omega
  obtain ⟨ad, ha, _⟩ := hfi 0 hl
  refine ⟨ad, ha, fun i v hi => ?_⟩
  obtain ⟨us, hus, hu⟩ := flat_get (k := 13) (cellsP_len _) (by omega) hi
  rw [List.getElem?_map, List.getElem?_map] at hus
  obtain ⟨p, hp, rfl⟩ := Option.map_eq_some_iff.1 hus
  obtain ⟨q, hq, rfl⟩ := Option.map_eq_some_iff.1 hp
  have hqq := List.getElem?_eq_some_iff.1 hq
  simp only [List.length_range, List.getElem_range] at hqq
  obtain ⟨hlt, rfl⟩ := hqq
  obtain ⟨ad', ha', _, hR, _⟩ := hfi (i / 13) hlt
  rw [ha] at ha'
  simp only [Option.some.injEq] at ha'
  subst ha'
  have := hR _ _ hu
  rw [add_add, Nat.mul_comm, Nat.div_add_mod] at this
  exact this
theorem EdsV.src {R : RO} {v : Value} {ds : List De} (h : EdsV R v ds) : ∃ (a : Option Addr) (cap : Nat) (ps : List Pl), v = .slice a ds.length cap ∧ ps.map (·.1) = ds ∧ (∀ p ∈ ps, PlOK R p) ∧ ∀ {kk : List Value → Prop} {t : Tok kk}, kk (rowP ps) → SrcP R 13 a ds.length kk t := by
 obtain ⟨a, cap, ps, rfl, _, h1, h2, h3⟩ := h.pls
 refine ⟨a, cap, ps, rfl, h1, h2, fun hk => vsrc (rowP ps) (by rw [rowP_len, ← h1]; simp) (fun u hu => ?_) h3 hk⟩
 unfold rowP at hu
 obtain ⟨c, hc, hu'⟩ := List.mem_flatten.1 hu
 obtain ⟨q, _, rfl⟩ := List.mem_map.1 hc
 exact edcells_one _ u hu'
theorem EdsV.nil (R : RO) : EdsV R (.slice none 0 0) [] := ⟨[], ⟨none, 0, rfl, Nat.le_refl _, by simp⟩, rfl, by simp, by simp⟩
theorem validE_ed (p : Pl) (h : p.2.2.1 = p.1.rule.length) : validE p.ed = validD p.1 := by
 unfold validD Pl.ed
 rw [h]
 rfl
set_option maxRecDepth 8000 in
theorem eSorted (ds : List De) (v : Value) (R : RO) (h : EdsV R v ds) : CallsR Tryz.prog 80 [v] R fun R' r => match allD ds with
  | .error k => r = .tuple #[.slice none 0 0, .int .i64 k]
  | .ok o => ∃ u, r = .tuple #[u, .int .i64 0] ∧ EdsV R' u o := by
 have hdl : ds.length ≤ 1000000000 := by obtain ⟨_, _, _, _, h⟩ := h; exact h
 obtain ⟨a, cap, rfl, hc, hf⟩ := PlOK.of h
 refine callsT mix Tryz.func80 comp80 (by simp [Tryz.ntmps80]) ?_; simp only [go_sem, ↓reduceIte, nQ1, nQ2, nQ3, nQ4, nQ5, nQ6, reduceCtorEq, vc80, rs80]
 refine ⟨fun hgt => ?_, fun hle => ?_⟩
 ·have : allD ds = .error 2 := by unfold allD; rw [if_pos (by omega)]
  rw [this]
 have hall : allD ds = okD (distD [] ds) := by unfold allD; rw [if_neg (by omega)]
 refine vcLoopR (Nat × List Pl × List Pl) (fun x => [(17, .val (.int .i64 x.1)), (16, .val (.int .i64 ds.length)), (15, .val (.slice a ds.length cap)), (4, .mp 0), (5, gs 1 x.2.2.length)])
  (fun x => [.mp (ents 0 x.2.1) x.2.1.length, gb 31 13 (rowP x.2.2)])
  (fun x R => x.1 ≤ ds.length ∧ x.2.1.map (·.1) = x.2.2.map (·.1) ∧ distD [] (ds.take x.1) = some (x.2.1.map (·.1)) ∧ x.2.2.length ≤ x.1 ∧ (∀ p ∈ x.2.1, PlOK R p) ∧ ∀ p ∈ x.2.2, PlOK R p) (fun x => ds.length - x.1) (0, [], []) [] ?_ ?_ ?_ ?_
 ·(try simp only [go_sem, ↓reduceIte, nQ1, nQ2, nQ3, nQ4, nQ5, nQ6, reduceCtorEq]) <;> (repeat' (first | rfl | trivial | constructor | (intro h; exact absurd rfl h)))
 ·try simp only [go_sem, ↓reduceIte, nQ1, nQ2, nQ3, nQ4, nQ5, nQ6, reduceCtorEq]
 ·exact ⟨Nat.zero_le _, rfl, rfl, Nat.le_refl _, by simp, by simp⟩
 rintro ⟨i, qs, ps⟩ env R1 hle1 hE ⟨hi, hqp, hd, hpl, hqo, hpo⟩
 (simp only [go_sem] at hE; obtain ⟨e17, e16, e15, e4, e5⟩ := hE; simp only [go_sem, ↓reduceIte, nQ1, nQ2, nQ3, nQ4, nQ5, nQ6, reduceCtorEq, e17, e16, e15, e4, e5]; dsimp only at *)
 refine ⟨fun hlt => ⟨hlt, ?_⟩, fun hge => ?_⟩
 ·have hlt' : i < ds.length := by omega
  obtain ⟨ad, p, had, hp1, hR, hpok⟩ := hf i hlt'
  have hcells : ∀ j u, (p.ed.cells)[j]? = some u → R1 ((ad.add (i * 13)).add j) u := fun j u hj => hle1 _ _ (hR j u hj)
  refine vat ad had ?_
  try simp only [go_sem, ↓reduceIte, nQ1, nQ2, nQ3, nQ4, nQ5, nQ6, reduceCtorEq]
  refine vloadn p.ed.cells rfl hcells ?_
  simp only [go_sem, ↓reduceIte, nQ1, nQ2, nQ3, nQ4, nQ5, nQ6, reduceCtorEq, Ed.cells, Pl.ed, De.ed, e17, e16, e15, e4, e5]
  refine vcall (eValid p.ed R1) ?_
  rintro R2 v hle2 rfl
  try simp only [go_sem, ↓reduceIte, nQ1, nQ2, nQ3, nQ4, nQ5, nQ6, reduceCtorEq]
  rw [validE_ed p hpok.len]
  refine ⟨fun hv => ?_, fun hv => ?_⟩
  ·have hb := distD_bad hlt' hd (addD_invalid (by rw [← hp1]; simpa using hv))
   rw [hall, hb]
   rfl
  simp only [go_sem, ↓reduceIte, nQ1, nQ2, nQ3, nQ4, nQ5, nQ6, reduceCtorEq, e17, e16, e15, e4, e5]
  have hpk : PlOK R2 p := hpok.mono (RO.le_trans hle1 hle2)
  have hstep := distD_step hlt' hd
  rw [← hp1] at hstep
  cases hfind : qs.find? (fun q => keyEq p.1 q.1) with
  | some q =>
   obtain ⟨j, hj⟩ := mfind_some p.1 q qs 0 0 hfind
   have hq := List.find?_some hfind
   have hqm := List.mem_of_find?_eq_some hfind
   rw [addD_old hv (by rw [find_fst, hfind]; rfl)] at hstep
   refine vmget (ents 0 qs) qs.length (some (j, q.ed.val)) (by rw [show Value.agg #[Value.int .i64 p.1.device, .int .i64 p.1.seq] = keyV p.1 from rfl, mEq_key]; simp [keyEq]) rfl hj ?_
   simp only [go_sem, ↓reduceIte, nQ1, nQ2, nQ3, nQ4, nQ5, nQ6, reduceCtorEq, mres, Ed.val, Pl.ed, De.ed, e17, e16, e15, e4, e5]
   refine vcall (eSame q.1 p.1 q.ed.cells p.ed.cells R2 ((hqo q hqm).mono hle2).edV hpk.edV) ?_
   rintro R3 v hle3 rfl
   simp only [go_sem, ↓reduceIte, nQ1, nQ2, nQ3, nQ4, nQ5, nQ6, reduceCtorEq, e17, e16, e15, e4, e5]
   refine ⟨fun hne => ?_, fun heq => ?_⟩
   ·rw [if_neg hne] at hstep
    have hb := distD_none_append _ _ (ds.drop (i + 1)) hstep
    rw [List.take_append_drop] at hb
    rw [hall, hb]
    rfl
   ·rw [if_pos heq] at hstep
    refine ⟨_, W.in64 (by omega), (i + 1, qs, ps), [], ?_⟩
    try simp only [go_sem, ↓reduceIte, nQ1, nQ2, nQ3, nQ4, nQ5, nQ6, reduceCtorEq]
    refine ⟨by omega, ⟨rfl, fun h => gb_ne h⟩, by decide, by omega, hqp, hstep, by omega, fun p hp => (hqo p hp).mono (RO.le_trans hle2 hle3), fun p hp => (hpo p hp).mono (RO.le_trans hle2 hle3)⟩
  | none =>
   have hn := mfind_none p.1 qs 0 0 (fun q hq => by have := List.find?_eq_none.1 hfind q hq; simpa using this)
   rw [addD_new hv (by rw [find_fst, hfind]; rfl)] at hstep
   refine vmget (ents 0 qs) qs.length none (by rw [show Value.agg #[Value.int .i64 p.1.device, .int .i64 p.1.seq] = keyV p.1 from rfl, mEq_key]; simp [keyEq]) rfl hn ?_
   simp only [go_sem, ↓reduceIte, nQ1, nQ2, nQ3, nQ4, nQ5, nQ6, reduceCtorEq, mres, e17, e16, e15, e4, e5]
   refine ⟨by rw [show Value.agg #[Value.int .i64 p.1.device, .int .i64 p.1.seq] = keyV p.1 from rfl, mEq_key]; simp [keyEq], vmput (ents 0 qs) qs.length none rfl hn ?_⟩
   simp only [go_sem, ↓reduceIte, nQ1, nQ2, nQ3, nQ4, nQ5, nQ6, reduceCtorEq, mset, e17, e16, e15, e4, e5]
   refine vcall (eCopied p.1.rule _ R2 hpk) ?_
   intro R3 u hle3 hu
   obtain ⟨ua, un, uc, rfl⟩ := hu.form
   simp only [go_sem, ↓reduceIte, nQ1, nQ2, nQ3, nQ4, nQ5, nQ6, reduceCtorEq, e17, e16, e15, e4, e5]
   refine vgrow (rowP ps) (fun _ => rfl) (fun h0 => by rw [h0, gb_nil]; rfl) (by rw [rowP_len]) (by omega) (by omega) (by omega) ?_
   simp only [go_sem, ↓reduceIte, nQ1, nQ2, nQ3, nQ4, nQ5, nQ6, reduceCtorEq, e17, e16, e15, e4, e5]
   refine ⟨_, W.in64 (by omega), (i + 1, qs ++ [p], ps ++ [(p.1, ua, un, uc)]), [0, 6], ?_⟩
   try simp only [go_sem, ↓reduceIte, nQ1, nQ2, nQ3, nQ4, nQ5, nQ6, reduceCtorEq]
   refine ⟨by omega, ⟨rfl, by rw [ents_snoc, Nat.zero_add]; rfl, fun _ => by rw [rowP_snoc]; rfl⟩, by decide, by omega, by simp [hqp], by rw [hstep]; simp, by omega, fun q hq => ?_, fun q hq => ?_⟩
   ·rcases List.mem_append.1 hq with hq | hq
    ·exact (hqo q hq).mono (RO.le_trans hle2 hle3)
    ·simp only [List.mem_cons, List.not_mem_nil, or_false] at hq; subst hq; exact hpk.mono hle3
   ·rcases List.mem_append.1 hq with hq | hq
    ·exact (hpo q hq).mono (RO.le_trans hle2 hle3)
    ·simp only [List.mem_cons, List.not_mem_nil, or_false] at hq; subst hq; exact hu
 ·obtain rfl : i = ds.length := by omega
  rw [List.take_length] at hd
  rw [hall, hd]
  simp only [okD]
  by_cases h0 : ps.length = 0
  ·rw [h0]
   try simp only [go_sem, ↓reduceIte, nQ1, nQ2, nQ3, nQ4, nQ5, nQ6, reduceCtorEq]
   refine vcall (eSortEdNil _ R1) ?_
   rintro R2 v hle2 rfl
   simp only [go_sem, ↓reduceIte, nQ1, nQ2, nQ3, nQ4, nQ5, nQ6, reduceCtorEq, e17, e16, e15, e4, e5]
   rw [h0]
   try simp only [go_sem, ↓reduceIte, nQ1, nQ2, nQ3, nQ4, nQ5, nQ6, reduceCtorEq]
   obtain rfl : ps = [] := List.eq_nil_of_length_eq_zero h0
   have hqs : qs = [] := by simpa using hqp
   subst hqs
   exact ⟨_, rfl, by simpa [sortD] using EdsV.nil R2⟩
  ·rw [gs_pos h0]
   try simp only [go_sem, ↓reduceIte, nQ1, nQ2, nQ3, nQ4, nQ5, nQ6, reduceCtorEq]
   refine vhand [1] [.sl 0 ps.length, .val (.func (.func 83) #[] #[])] [.row 31 13 (rowP ps)] (eSortEd ps (by omega) R1) rfl rfl rfl ?_ (by simp) rfl rfl ?_
   ·try simp only [go_sem, ↓reduceIte, nQ1, nQ2, nQ3, nQ4, nQ5, nQ6, reduceCtorEq]
    exact gb_ne (fun e => h0 (by have := rowP_len ps; rw [e] at this; simp at this; omega))
   rintro R2 bs r hle2 ⟨rfl, rs, hperm, hpw, rfl, rfl⟩ _
   simp only [go_sem, ↓reduceIte, nQ1, nQ2, nQ3, nQ4, nQ5, nQ6, reduceCtorEq, e17, e16, e15, e4, e5]
   rw [gs_pos h0]
   simp only [go_sem, ↓reduceIte, nQ1, nQ2, nQ3, nQ4, nQ5, nQ6, reduceCtorEq, setG, rn]
   intro b cap' R3 hle3 hrow hcap hfr
   have hk : KeysD (qs.map (·.1)) := distD_keys hd List.Pairwise.nil
   have hperm1 : (rs.map (·.1)).Perm (qs.map (·.1)) := by rw [hqp]; exact hperm.map _
   have hs : rs.map (·.1) = sortD (qs.map (·.1)) := sortD_eq hk hperm1 (List.pairwise_map.2 hpw)
   refine ⟨_, rfl, ?_⟩
   rw [← hs, show ps.length = rs.length from hperm.length_eq.symm]
   exact EdsV.row hrow hcap (fun p hp => (hpo p (hperm.mem_iff.1 hp)).mono hle3) (by rw [hperm.length_eq]; omega)
end Go.Proofs.YtojckjngjfgfdaaGreat
namespace Go.Proofs.YtojckjngjfgfdaaGreat
set_option linter.unusedSimpArgs false
set_option linter.unusedVariables false
open Go.Proofs.YtojckjngjfgfdaaGreat.Vc
theorem cutT {P : PG} {c : VCode} {s : St} {kn : St → Prop} {ke : Nat → St → Prop} {kr : St → Prop} {tn : Tok kn} {te : Tok ke} {tr : Tok kr} (Q : St → Prop) (h : CodeT P c s Q ke kr .mk .mk .mk) (hk : ∀ s', Q s' → kn s') : CodeT P c s kn ke kr tn te tr :=
 vcCode_mono c hk (fun _ _ h => h) (fun _ h => h) h
theorem cutS {P : PG} {l : List VStep} {s : St} {K : St → Prop} {t : Tok K} (Q : St → Prop) (h : StepsT P l s Q .mk) (hk : ∀ s', Q s' → K s') : StepsT P l s K t := vcSteps_mono l hk h
theorem cutR {P : PG} {a b : VCode} {s : St} {kn : St → Prop} {ke : Nat → St → Prop} {kr : St → Prop} {tn : Tok kn} {te : Tok ke} {tr : Tok kr} (s1 : St) (h : CodeT P a s (fun s' => s' = s1) ke kr .mk .mk .mk) (hk : CodeT P b s1 kn ke kr .mk .mk .mk) : CodeT P (.seq a b) s kn ke kr tn te tr :=
 vcCode_mono a (fun s' e => by subst e; exact hk) (fun _ _ h => h) (fun _ h => h) h
theorem cutL {P : PG} {b : VCode} {s : St} {kn kn1 : St → Prop} {ke0 : Nat → St → Prop} {kr : St → Prop} {n : Nat} {t1 : Tok kn} {t2 : Tok (fun (i : Nat) (s' : St) => if i = n then kn1 s' else ke0 i s')} {t3 : Tok kr} {t4 : Tok b} (Q : St → Prop)
  (h : VLoop P b s kn (fun i s' => if i = n then Q s' else ke0 i s') kr .mk .mk .mk .mk) (hk : ∀ s', Q s' → kn1 s') : VLoop P b s kn (fun i s' => if i = n then kn1 s' else ke0 i s') kr t1 t2 t3 t4 :=
 vcCode_mono (.loop b) (fun _ h => h) (fun i s' h => by
  revert h
  by_cases e : i = n
  ·rw [if_pos e, if_pos e]; exact hk s'
  ·rw [if_neg e, if_neg e]; exact id) (fun _ h => h) h
theorem inScope_one (ρ : List Nat) (vals : List (Nat × SV)) (blks : List Blk) : inScope 1 ρ vals blks = (keysOK vals && (vals.all fun p => p.2.ok blks.length) && blks.all (scB blks.length) && rnInj ρ blks.length && decide (1 ≤ blks.length) && (rn ρ 0 == 0)) := by
 simp [inScope, List.range_succ]
theorem setG_no (l x : List Blk) : setG l [] x = l ++ x := by cases x <;> rfl
end Go.Proofs.YtojckjngjfgfdaaGreat
namespace Go.Proofs.YtojckjngjfgfdaaGreat
set_option linter.unusedSimpArgs false
set_option linter.unusedVariables false
open Go.Proofs.YtojckjngjfgfdaaGreat.Vc
/-! ### Package device: order, equality -/
theorem dOrder (a b : Ed) (R : RO) : CallsR Tryz.prog 60 [a.val, b.val] R fun _ v => v = .int .i64 (cmpE a b) := by
 simp only [Ed.val]
 refine callsT mix Tryz.func60 comp60 (by simp [Tryz.ntmps60]) ?_; simp only [go_sem, ↓reduceIte, nQ1, nQ2, nQ3, nQ4, nQ5, nQ6, reduceCtorEq, vc60, rs60]
 refine vcall (eCompare a.seq b.seq R) ?_
 rintro R1 v h1 rfl
 try simp only [go_sem, ↓reduceIte, nQ1, nQ2, nQ3, nQ4, nQ5, nQ6, reduceCtorEq]
 refine vcall (eCompare a.device b.device R1) ?_
 rintro R2 v h2 rfl
 try simp only [go_sem, ↓reduceIte, nQ1, nQ2, nQ3, nQ4, nQ5, nQ6, reduceCtorEq]
 refine vfreeze ?_
 try simp only [go_sem, ↓reduceIte, nQ1, nQ2, nQ3, nQ4, nQ5, nQ6, reduceCtorEq]
 intro bb cap R3 hle hrow hcap hfr
 have hI : Ints R3 (.slice (some ⟨bb, 0, none⟩) 2 cap) [cmpI a.seq b.seq, cmpI a.device b.device] := RowIn.ints (xs := [cmpI a.seq b.seq, cmpI a.device b.device]) hrow (by simpa using hcap)
 refine vcall (eOr _ _ R3 hI (by simp)) ?_
 rintro R4 v h4 rfl
 try simp only [go_sem, ↓reduceIte, nQ1, nQ2, nQ3, nQ4, nQ5, nQ6, reduceCtorEq]
 unfold cmpE
 simp only [orI]
 by_cases h1 : cmpI a.seq b.seq = 0
 ·by_cases h2 : cmpI a.device b.device = 0 <;> simp [h1, h2]
 ·simp [h1]
theorem dSameNode (x y : Nd) (cx cy : List Value) (R : RO) (hx : NodeV R cx x) (hy : NodeV R cy y) : CallsR Tryz.prog 95 [.agg cx.toArray, .agg cy.toArray] R fun _ r => r = .bool (decide (x = y)) := by
 obtain ⟨lv, rfl, hi, hl⟩ := hx
 obtain ⟨lu, rfl, hi', hl'⟩ := hy
 obtain ⟨kind, cal, l, r, n, m, list, name⟩ := x
 obtain ⟨kind', cal', l', r', n', m', list', name'⟩ := y
 simp only [Nd.cells] at *
 refine callsT mix Tryz.func95 comp95 (by simp [Tryz.ntmps95]) ?_; simp only [go_sem, ↓reduceIte, nQ1, nQ2, nQ3, nQ4, nQ5, nQ6, reduceCtorEq, vc95, rs95]
 have hb : (name == name') = decide (name = name') := by
  by_cases e : name = name'
  ·subst e
   simp only [decide_true]
   exact bytes_beq name
  ·rw [decide_eq_false e]
   cases hq : (name == name') with
   | false => rfl
   | true => exact absurd (bytes_eq hq) e
 rw [hb]
 simp only [Nd.mk.injEq]
 repeat' (with_reducible first | refine And.intro ?_ ?_ | intro _)
 ·refine vcall (eEqual list list' lv lu R hi hi' (by omega)) ?_
  rintro R1 v h1 rfl
  try simp only [go_sem, ↓reduceIte, nQ1, nQ2, nQ3, nQ4, nQ5, nQ6, reduceCtorEq]
  simp_all
 all_goals simp_all
theorem hbDN : hasBody Tryz.prog 95 = true := by kernel_rfl
theorem dEqualFunc (xs ys : List Nd) (v u : Value) (R : RO) (h : RuleV R v xs) (k : RuleV R u ys) : CallsR Tryz.prog 94 [v, u, .func (.func 95) #[] #[]] R fun _ r => r = .bool (decide (xs = ys)) := by
 obtain ⟨cs, h1, h2, h3, h4⟩ := h
 obtain ⟨ds, k1, k2, k3, k4⟩ := k
 obtain ⟨a, cap, rfl, hc, hf⟩ := SlK.form h1
 obtain ⟨b, cap', rfl, hc', hf'⟩ := SlK.form k1
 refine callsT mix Tryz.func94 comp94 (by simp [Tryz.ntmps94]) ?_; simp only [go_sem, ↓reduceIte, nQ1, nQ2, nQ3, nQ4, nQ5, nQ6, reduceCtorEq, vc94, rs94]
 refine ⟨fun hne => ?_, fun he => ?_⟩
 ·rw [decide_eq_false]; rintro rfl; exact hne (by omega)
 have he' : xs.length = ys.length := by omega
 refine vcLoop Nat (fun i => [(17, .val (.int .i64 i)), (0, .val (.slice a cs.length cap)), (15, .val (.slice a cs.length cap)), (16, .val (.int .i64 cs.length)), (1, .val (.slice b ds.length cap')), (2, .val (.func (.func 95) #[] #[]))]) (fun _ => []) (fun i _ => i ≤ cs.length ∧ xs.take i = ys.take i) (fun i => cs.length - i) 0 ?_ rfl ?_ ?_
 ·(try simp only [go_sem, ↓reduceIte, nQ1, nQ2, nQ3, nQ4, nQ5, nQ6, reduceCtorEq]) <;> (repeat' (first | rfl | trivial | constructor | (intro h; exact absurd rfl h)))
 ·exact ⟨Nat.zero_le _, rfl⟩
 rintro i env R1 hle hE ⟨hi, hp⟩
 (simp only [go_sem] at hE; obtain ⟨e17, e0, e15, e16, e1, e2⟩ := hE; simp only [go_sem, ↓reduceIte, nQ1, nQ2, nQ3, nQ4, nQ5, nQ6, reduceCtorEq, e17, e0, e15, e16, e1, e2]; dsimp only at *)
 refine ⟨fun hlt => ⟨hlt, ?_⟩, fun hge => ?_⟩
 ·have hlt' : i < cs.length := by omega
  obtain ⟨hl, ad, had, hR⟩ := hf i hlt'
  obtain ⟨hl', ad', had', hR'⟩ := hf' i (by omega)
  have hx := h3 i _ _ (List.getElem?_eq_getElem hlt') (List.getElem?_eq_getElem (by omega))
  have hy := k3 i _ _ (List.getElem?_eq_getElem (by omega : i < ds.length)) (List.getElem?_eq_getElem (by omega : i < ys.length))
  obtain ⟨x, hxe⟩ : ∃ x, x = xs[i]'(by omega) := ⟨_, rfl⟩
  obtain ⟨y, hye⟩ : ∃ y, y = ys[i]'(by omega) := ⟨_, rfl⟩
  rw [← hxe] at hx
  rw [← hye] at hy
  have hx' := hx
  have hy' := hy
  obtain ⟨lv, hcx, hI, hIl⟩ := hx
  obtain ⟨lu, hcy, hI', hIl'⟩ := hy
  have ho : lv.oneCell' = true := by obtain ⟨_, _, rfl, _⟩ := hI.form; rfl
  have ho' : lu.oneCell' = true := by obtain ⟨_, _, rfl, _⟩ := hI'.form; rfl
  rw [hcx] at hR hx'
  rw [hcy] at hR' hy'
  refine vat ad had ?_
  try simp only [go_sem, ↓reduceIte, nQ1, nQ2, nQ3, nQ4, nQ5, nQ6, reduceCtorEq]
  refine vloadn (x.cells lv) rfl (fun j u hj => hle _ _ (hR j u hj)) ?_
  simp only [go_sem, ↓reduceIte, nQ1, nQ2, nQ3, nQ4, nQ5, nQ6, reduceCtorEq, Nd.cells, e17, e0, e15, e16, e1, e2]
  refine ⟨ho, by omega, vat ad' had' ?_⟩
  try simp only [go_sem, ↓reduceIte, nQ1, nQ2, nQ3, nQ4, nQ5, nQ6, reduceCtorEq]
  refine vloadn (y.cells lu) rfl (fun j u hj => hle _ _ (hR' j u hj)) ?_
  simp only [go_sem, ↓reduceIte, nQ1, nQ2, nQ3, nQ4, nQ5, nQ6, reduceCtorEq, Nd.cells, e17, e0, e15, e16, e1, e2]
  refine ⟨ho', ?_⟩
  refine ⟨hbDN, vcall (dSameNode x y _ _ R1 (hx'.mono hle) (hy'.mono hle)) ?_⟩
  rintro R2 w h6 rfl
  simp only [go_sem, ↓reduceIte, nQ1, nQ2, nQ3, nQ4, nQ5, nQ6, reduceCtorEq, e17, e0, e15, e16, e1, e2]
  refine ⟨fun hne => ?_, fun heq => ?_⟩
  ·rw [decide_eq_false]; rintro rfl; exact hne (by rw [hxe, hye])
  ·refine ⟨_, W.in64 (by omega), i + 1, by omega, by constructor, by omega, ?_⟩
   rw [List.take_succ_eq_append_getElem (by omega : i < xs.length), List.take_succ_eq_append_getElem (by omega : i < ys.length), hp, ← hxe, ← hye, heq]
 ·obtain rfl : i = cs.length := by omega
  rw [h2, List.take_length, he', List.take_length] at hp
  simp [hp]
theorem dSame (x y : De) (cx cy : List Value) (R : RO) (hx : EdV R cx x) (hy : EdV R cy y) (hk : keyEq x y = true) : CallsR Tryz.prog 62 [.agg cx.toArray, .agg cy.toArray] R fun _ r => r = .bool (decide (x = y)) := by
 obtain ⟨a, n, c, e, h⟩ := hx
 obtain ⟨a', n', c', e', h'⟩ := hy
 rw [e, e']
 clear e e'
 obtain ⟨kind, day, device, seq, mv, minute, length, rule, zone⟩ := x
 obtain ⟨kind', day', device', seq', mv', minute', length', rule', zone'⟩ := y
 obtain ⟨md, mr, mt, mm, ml⟩ := mv
 obtain ⟨md', mr', mt', mm', ml'⟩ := mv'
 rw [keyEq_iff] at hk
 obtain ⟨hk1, hk2⟩ := hk
 simp only [De.ed, Ed.val] at *
 subst hk1 hk2
 refine callsT mix Tryz.func62 comp62 (by simp [Tryz.ntmps62]) ?_; simp only [go_sem, ↓reduceIte, nQ1, nQ2, nQ3, nQ4, nQ5, nQ6, reduceCtorEq, vc62, rs62]
 have hb : (zone == zone') = decide (zone = zone') := by
  by_cases e : zone = zone'
  ·subst e
   simp only [decide_true]
   exact bytes_beq zone
  ·rw [decide_eq_false e]
   cases hq : (zone == zone') with
   | false => rfl
   | true => exact absurd (bytes_eq hq) e
 rw [hb]
 simp only [De.mk.injEq, Mv.mk.injEq]
 repeat' (with_reducible first | refine And.intro ?_ ?_ | intro _)
 ·refine vcall (dEqualFunc rule rule' _ _ R h h') ?_
  rintro R1 v h1 rfl
  try simp only [go_sem, ↓reduceIte, nQ1, nQ2, nQ3, nQ4, nQ5, nQ6, reduceCtorEq]
  simp_all
 all_goals (clear h h')
 all_goals simp_all
end Go.Proofs.YtojckjngjfgfdaaGreat
namespace Go.Proofs.YtojckjngjfgfdaaGreat
set_option linter.unusedSimpArgs false
set_option linter.unusedVariables false
open Go.Proofs.YtojckjngjfgfdaaGreat.Vc
/-! ### Devices: plain -/
structure Dv where
 id : Int
 epoch : Int
 next : Int
 edits : List De
 deriving DecidableEq
def okEd (next : Int) (e : De) : Bool := validD e && decide (e.seq / 64 < next)
def hdrOK (id epoch next : Int) (n : Nat) : Bool := decide (0 ≤ id ∧ id ≤ 15 ∧ 0 ≤ epoch ∧ epoch ≤ 63 ∧ 1 ≤ next ∧ next ≤ 17179869184 ∧ n ≤ 4096)
instance sortedDec (l : List De) : Decidable (SortedD l) := inferInstanceAs (Decidable (List.Pairwise _ l))
def validV (d : Dv) : Bool := hdrOK d.id d.epoch d.next d.edits.length && d.edits.all (okEd d.next) && decide (SortedD d.edits)
def mgo : Nat → List De → List De → List De × List De × Bool
 | 0, _, _ => ([], [], true)
 | _ + 1, [], [] => ([], [], true)
 | n + 1, x :: a, [] => (x :: (mgo n a []).1, (mgo n a []).2.1, (mgo n a []).2.2)
 | n + 1, [], y :: b => (y :: (mgo n [] b).1, y :: (mgo n [] b).2.1, (mgo n [] b).2.2)
 | n + 1, x :: a, y :: b =>
  if lessD x y = true then (x :: (mgo n a (y :: b)).1, (mgo n a (y :: b)).2.1, (mgo n a (y :: b)).2.2)
  else if lessD y x = true then (y :: (mgo n (x :: a) b).1, y :: (mgo n (x :: a) b).2.1, (mgo n (x :: a) b).2.2)
  else (x :: (mgo n a b).1, (mgo n a b).2.1, decide (x = y) && (mgo n a b).2.2)
def freshD (a b : List De) : List De := b.filter fun y => !(a.any (keyEq y))
def agreeD (a b : List De) : Bool := a.all fun x => b.all fun y => !keyEq x y || decide (x = y)
def unionD (a b : List De) : List De := (mgo (a.length + b.length) a b).1
def nextD (n : Int) (l : List De) : Int := l.foldl (fun n e => max n (e.seq / 64 + 1)) n
theorem SortedD.tail {x : De} {l : List De} (h : SortedD (x :: l)) : SortedD l := (List.pairwise_cons.1 h).2
theorem SortedD.head {x : De} {l : List De} (h : SortedD (x :: l)) : ∀ y ∈ l, lessD x y = true := (List.pairwise_cons.1 h).1
theorem keyEq_comm' {x y : De} (h : keyEq x y = false) : keyEq y x = false := by rw [keyEq_symm]; exact h
structure MgoS (a b : List De) (r : List De × List De × Bool) : Prop where
 sorted : SortedD r.1
 mem : ∀ x, x ∈ r.1 ↔ x ∈ a ∨ (x ∈ b ∧ ∀ y ∈ a, keyEq x y = false)
 fresh : r.2.1 = freshD a b
 agree : r.2.2 = agreeD a b
theorem freshD_nil (b : List De) : freshD [] b = b := by simp [freshD]
theorem freshD_cons_lt {x y : De} {a b : List De} (h : ∀ z ∈ b, lessD x z = true) : freshD (x :: a) b = freshD a b := by
 unfold freshD
 refine List.filter_congr fun z hz => ?_
 have h1 := lessD_key (h z hz)
 have h2 : keyEq z x = false := keyEq_comm' h1
 simp [h2]
theorem agreeD_cons (x : De) (a b : List De) : agreeD (x :: a) b = ((b.all fun y => !keyEq x y || decide (x = y)) && agreeD a b) := rfl
theorem all_lt {x : De} {b : List De} (h : ∀ z ∈ b, lessD x z = true) : (b.all fun y => !keyEq x y || decide (x = y)) = true := by
 rw [List.all_eq_true]
 intro z hz
 have := lessD_key (h z hz)
 simp [this]
theorem mgo_spec : ∀ (n : Nat) (a b : List De), a.length + b.length ≤ n → SortedD a → SortedD b → MgoS a b (mgo n a b)
 | 0, a, b, hn, _, _ => by
  have ha : a = [] := List.eq_nil_of_length_eq_zero (by omega)
  have hb : b = [] := List.eq_nil_of_length_eq_zero (by omega)
  subst ha hb
  exact ⟨List.Pairwise.nil, by simp [mgo], rfl, rfl⟩
 | n + 1, [], [], _, _, _ => ⟨List.Pairwise.nil, by simp [mgo], rfl, rfl⟩
 | n + 1, x :: a, [], hn, ha, hb => by
  have ih := mgo_spec n a [] (by simp at hn ⊢; omega) ha.tail hb
  refine ⟨List.pairwise_cons.2 ⟨fun z hz => ?_, ih.sorted⟩, fun z => ?_, by show (mgo n a []).2.1 = _; rw [ih.fresh]; rfl, by show (mgo n a []).2.2 = _; rw [ih.agree, agreeD_cons]; rfl⟩
  ·rcases (ih.mem z).1 hz with h | ⟨h, _⟩
   ·exact ha.head z h
   ·simp at h
  ·show z ∈ x :: (mgo n a []).1 ↔ _
   rw [List.mem_cons, ih.mem, List.mem_cons]
   simp
 | n + 1, [], y :: b, hn, ha, hb => by
  have ih := mgo_spec n [] b (by simp at hn ⊢; omega) ha hb.tail
  refine ⟨List.pairwise_cons.2 ⟨fun z hz => ?_, ih.sorted⟩, fun z => ?_, by show y :: (mgo n [] b).2.1 = _; rw [ih.fresh, freshD_nil, freshD_nil], by show (mgo n [] b).2.2 = _; rw [ih.agree]; rfl⟩
  ·rcases (ih.mem z).1 hz with h | ⟨h, _⟩
   ·simp at h
   ·exact hb.head z h
  ·show z ∈ y :: (mgo n [] b).1 ↔ _
   rw [List.mem_cons, ih.mem, List.mem_cons]
   simp
 | n + 1, x :: a, y :: b, hn, ha, hb => by
  unfold mgo
  by_cases hxy : lessD x y = true
  ·rw [if_pos hxy]
   have ih := mgo_spec n a (y :: b) (by simp at hn ⊢; omega) ha.tail hb
   have hxb : ∀ z ∈ y :: b, lessD x z = true := fun z hz => by
    rcases List.mem_cons.1 hz with rfl | hz
    ·exact hxy
    ·exact lessD_trans hxy (hb.head z hz)
   refine ⟨List.pairwise_cons.2 ⟨fun z hz => ?_, ih.sorted⟩, fun z => ?_, by show (mgo n a (y :: b)).2.1 = _; rw [ih.fresh, freshD_cons_lt (y := y) hxb], by show (mgo n a (y :: b)).2.2 = _; rw [ih.agree, agreeD_cons, all_lt hxb, Bool.true_and]⟩
   ·rcases (ih.mem z).1 hz with h | ⟨h, _⟩
    ·exact ha.head z h
    ·exact hxb z h
   ·show z ∈ x :: (mgo n a (y :: b)).1 ↔ _
    rw [List.mem_cons, ih.mem, List.mem_cons (a := z) (b := x)]
    constructor
    ·rintro (h | h | ⟨h1, h2⟩)
     ·exact .inl (.inl h)
     ·exact .inl (.inr h)
     ·refine .inr ⟨h1, fun w hw => ?_⟩
      rcases List.mem_cons.1 hw with rfl | hw
      ·exact keyEq_comm' (lessD_key (hxb z h1))
      ·exact h2 w hw
    ·rintro ((h | h) | ⟨h1, h2⟩)
     ·exact .inl h
     ·exact .inr (.inl h)
     ·exact .inr (.inr ⟨h1, fun w hw => h2 w (List.mem_cons_of_mem _ hw)⟩)
  ·rw [if_neg hxy]
   by_cases hyx : lessD y x = true
   ·rw [if_pos hyx]
    have ih := mgo_spec n (x :: a) b (by simp at hn ⊢; omega) ha hb.tail
    have hya : ∀ z ∈ x :: a, lessD y z = true := fun z hz => by
     rcases List.mem_cons.1 hz with rfl | hz
     ·exact hyx
     ·exact lessD_trans hyx (ha.head z hz)
    have hyk : ((x :: a).any (keyEq y)) = false := List.any_eq_false.2 fun z hz => by rw [lessD_key (hya z hz)]; simp
    refine ⟨List.pairwise_cons.2 ⟨fun z hz => ?_, ih.sorted⟩, fun z => ?_, ?_, ?_⟩
    ·rcases (ih.mem z).1 hz with h | ⟨h, _⟩
     ·exact hya z h
     ·exact hb.head z h
    ·show z ∈ y :: (mgo n (x :: a) b).1 ↔ _
     rw [List.mem_cons, ih.mem, List.mem_cons (a := z) (b := y)]
     constructor
     ·rintro (rfl | h | ⟨h1, h2⟩)
      ·exact .inr ⟨.inl rfl, fun w hw => lessD_key (hya w hw)⟩
      ·exact .inl h
      ·exact .inr ⟨.inr h1, h2⟩
     ·rintro (h | ⟨h1 | h1, h2⟩)
      ·exact .inr (.inl h)
      ·exact .inl h1
      ·exact .inr (.inr ⟨h1, h2⟩)
    ·show y :: (mgo n (x :: a) b).2.1 = _
     rw [ih.fresh]
     unfold freshD
     rw [List.filter_cons, hyk]
     rfl
    ·show (mgo n (x :: a) b).2.2 = _
     rw [ih.agree]
     unfold agreeD
     rw [Bool.eq_iff_iff, List.all_eq_true, List.all_eq_true]
     refine ⟨fun h z hz => ?_, fun h z hz => ?_⟩
     ·rw [List.all_cons, h z hz, keyEq_comm' (lessD_key (hya z hz))]; rfl
     ·have := h z hz
      rw [List.all_cons, Bool.and_eq_true] at this
      exact this.2
   ·rw [if_neg hyx]
    have hk : keyEq x y = true := lessD_total (by simpa using hxy) (by simpa using hyx)
    have ih := mgo_spec n a b (by simp at hn ⊢; omega) ha.tail hb.tail
    have hxb : ∀ z ∈ b, lessD x z = true := fun z hz => by
     have := hb.head z hz
     rw [lessD_iff] at *; rw [keyEq_iff] at hk; omega
    have hya : ∀ z ∈ a, lessD y z = true := fun z hz => by
     have := ha.head z hz
     rw [lessD_iff] at *; rw [keyEq_iff] at hk; omega
    refine ⟨List.pairwise_cons.2 ⟨fun z hz => ?_, ih.sorted⟩, fun z => ?_, ?_, ?_⟩
    ·rcases (ih.mem z).1 hz with h | ⟨h, _⟩
     ·exact ha.head z h
     ·exact hxb z h
    ·show z ∈ x :: (mgo n a b).1 ↔ _
     rw [List.mem_cons, ih.mem, List.mem_cons (a := z) (b := x), List.mem_cons (a := z) (b := y)]
     constructor
     ·rintro (h | h | ⟨h1, h2⟩)
      ·exact .inl (.inl h)
      ·exact .inl (.inr h)
      ·refine .inr ⟨.inr h1, fun w hw => ?_⟩
       rcases List.mem_cons.1 hw with rfl | hw
       ·exact keyEq_comm' (lessD_key (hxb z h1))
       ·exact h2 w hw
     ·rintro ((h | h) | ⟨rfl | h1, h2⟩)
      ·exact .inl h
      ·exact .inr (.inl h)
      ·have := h2 x (by simp)
       rw [keyEq_symm, hk] at this; cases this
      ·exact .inr (.inr ⟨h1, fun w hw => h2 w (List.mem_cons_of_mem _ hw)⟩)
    ·show (mgo n a b).2.1 = _
     rw [ih.fresh, ← freshD_cons_lt (x := x) (y := y) (a := a) hxb]
     unfold freshD
     rw [List.filter_cons, if_neg]
     simp [keyEq_symm y x, hk]
    ·show (decide (x = y) && (mgo n a b).2.2) = _
     rw [ih.agree, agreeD_cons, List.all_cons, all_lt hxb, hk]
     have h1 : agreeD a (y :: b) = agreeD a b := by
      unfold agreeD
      rw [Bool.eq_iff_iff, List.all_eq_true, List.all_eq_true]
      refine ⟨fun h z hz => ?_, fun h z hz => ?_⟩
      ·have := h z hz
       rw [List.all_cons, Bool.and_eq_true] at this
       exact this.2
      ·rw [List.all_cons, h z hz, keyEq_comm' (lessD_key (hya z hz))]; rfl
     rw [h1]
     simp
theorem unionD_spec {a b : List De} (ha : SortedD a) (hb : SortedD b) : SortedD (unionD a b) ∧ ∀ x, x ∈ unionD a b ↔ x ∈ a ∨ (x ∈ b ∧ ∀ y ∈ a, keyEq x y = false) :=
 have h := mgo_spec _ a b (Nat.le_refl _) ha hb
 ⟨h.sorted, h.mem⟩
def stampD (d : Dv) (e : De) : De := { e with device := d.id, seq := 64 * d.next + d.epoch }
def bareD (e : De) : De := { e with device := 0, seq := 1 }
def dvNew (id : Int) : Except Int Dv := if 0 ≤ id ∧ id ≤ 15 then .ok ⟨id, 0, 1, []⟩ else .error 1
def dvAdd (d : Dv) (e : De) : Except Int Dv :=
 if validV d = true ∧ validD (bareD e) = true then (if 4096 ≤ d.edits.length ∨ 17179869184 ≤ d.next then .error 2 else .ok ⟨d.id, d.epoch, d.next + 1, d.edits ++ [stampD d e]⟩) else .error 1
def dvSync (d o : Dv) : Except Int Dv :=
 if validV d = true ∧ validV o = true then
  (if agreeD d.edits o.edits = true then (if 4096 < (unionD d.edits o.edits).length then .error 2 else .ok ⟨d.id, d.epoch, nextD d.next (freshD d.edits o.edits), unionD d.edits o.edits⟩) else .error 1)
 else .error 1
def dvRestore (d : Dv) (ep : Int) : Except Int Dv :=
 if validV d = true ∧ 0 ≤ ep ∧ ep ≤ 63 then (if ep ≤ d.epoch then .error 9 else .ok ⟨d.id, ep, d.next, d.edits⟩) else .error 1
def dvLacks (d o : Dv) : List De := if validV d = true ∧ validV o = true then freshD d.edits o.edits else []
end Go.Proofs.YtojckjngjfgfdaaGreat
namespace Go.Proofs.YtojckjngjfgfdaaGreat
set_option linter.unusedSimpArgs false
set_option linter.unusedVariables false
open Go.Proofs.YtojckjngjfgfdaaGreat.Vc
/-! ### Package device: copies -/
theorem dCloneEdits (ds : List De) (v : Value) (R : RO) (h : EdsV R v ds) : CallsS Tryz.prog 54 [.val v] [] R fun R' bs r =>
  ∃ ps : List Pl, ps.map (·.1) = ds ∧ (∀ p ∈ ps, PlOK R' p) ∧ ((ds = [] ∧ bs = [] ∧ r = .val (.slice none 0 0)) ∨ (bs = [.dead, .row 31 13 (rowP ps)] ∧ r = .sl 1 ds.length)) := by
 have hdl : ds.length ≤ 1000000000 := by obtain ⟨_, _, _, _, h⟩ := h; exact h
 obtain ⟨a0, cap0, e0, _, hf⟩ := h.form
 obtain ⟨a, cap, ps, e1, hps, hpo, hsrc⟩ := h.src
 rw [e0] at e1
 simp only [Value.slice.injEq] at e1
 obtain ⟨rfl, _, rfl⟩ := e1
 subst e0
 have hpl : ps.length = ds.length := by rw [← hps]; simp
 refine callsTS mix Tryz.func54 comp54 (by simp [Tryz.ntmps54]) rfl rfl ?_; simp only [go_sem, ↓reduceIte, nQ1, nQ2, nQ3, nQ4, nQ5, nQ6, reduceCtorEq, vc54, rs54]
 refine ⟨fun hn => ?_, fun hs => ?_⟩
 ·have hds : ds = [] := by
   cases hd : ds with
   | nil => rfl
   | cons x r =>
    exfalso
    obtain ⟨ad, _, _, _, e, _⟩ := hf 0 (by rw [hd]; simp)
    rw [e] at hn; cases hn
  exact ⟨ps, hps, hpo, hds⟩
 ·refine hsrc ?_
  try simp only [go_sem, ↓reduceIte, nQ1, nQ2, nQ3, nQ4, nQ5, nQ6, reduceCtorEq]
  refine vappO [] rfl rfl (by omega) ?_
  try simp only [go_sem, ↓reduceIte, nQ1, nQ2, nQ3, nQ4, nQ5, nQ6, reduceCtorEq]
  exact ⟨ps, hps, hpo, .inr ⟨rfl, rfl⟩⟩
theorem dClone (d : De) (ra : Option Addr) (rn rc : Nat) (R : RO) (h : RuleV R (.slice ra rn rc) d.rule) : CallsR Tryz.prog 90 [.agg ((d.ed ra rn rc).cells).toArray] R fun R' v => ∃ ra' rn' rc', v = .agg ((d.ed ra' rn' rc').cells).toArray ∧ RuleV R' (.slice ra' rn' rc') d.rule := by
 have hxl : d.rule.length ≤ 1000000000 := by obtain ⟨_, _, _, _, h⟩ := h; exact h
 have hcl := eCloneRule d.rule _ R h hxl
 have hrn := h.len
 subst hrn
 simp only [Ed.cells, De.ed]
 refine callsT mix Tryz.func90 comp90 (by simp [Tryz.ntmps90]) ?_; simp only [go_sem, ↓reduceIte, nQ1, nQ2, nQ3, nQ4, nQ5, nQ6, reduceCtorEq, vc90, rs90]
 refine vhand0 [] [.val (.slice ra d.rule.length rc)] [] hcl rfl rfl rfl trivial (by simp) rfl rfl ?_
 rintro R1 bs r hle1 ⟨cs, h1, h2, h3, h4⟩ _
 rcases h4 with ⟨hx, rfl, rfl⟩ | ⟨rfl, rfl⟩
 ·try simp only [go_sem, ↓reduceIte, nQ1, nQ2, nQ3, nQ4, nQ5, nQ6, reduceCtorEq, iQ1, iQ2, iQ3, iQ4, iQ5, iQ6, setG_no]
  refine vcLoop Unit (fun _ => [(11, .val (.int .i64 0)), (10, .val (.int .i64 0)), (1, .loc 0 0), (2, .loc 1 0)]) (fun _ => [.box [.val (.int .i64 d.kind), .val (.int .i64 d.day), .val (.int .i64 d.device), .val (.int .i64 d.seq), .val (.int .i64 d.mv.day), .val (.bool d.mv.drop), .val (.int .i64 d.mv.toDay), .val (.int .i64 d.mv.minute), .val (.int .i64 d.mv.length), .val (.int .i64 d.minute), .val (.int .i64 d.length), .val (.slice none 0 0), .val (.string d.zone)],
   .box [.val (.int .i64 0), .val (.int .i64 0), .val (.int .i64 0), .val (.int .i64 0), .val (.int .i64 0), .val (.bool false), .val (.int .i64 0), .val (.int .i64 0), .val (.int .i64 0), .val (.int .i64 0), .val (.int .i64 0), .val (.slice none 0 0), .val (.string ⟨#[]⟩)]]) (fun _ _ => True) (fun _ => 0) () ?_ ?_ trivial ?_
  ·(try simp only [go_sem, ↓reduceIte, nQ1, nQ2, nQ3, nQ4, nQ5, nQ6, reduceCtorEq]) <;> (repeat' (first | rfl | trivial | constructor | (intro h; exact absurd rfl h)))
  ·try simp only [go_sem, ↓reduceIte, nQ1, nQ2, nQ3, nQ4, nQ5, nQ6, reduceCtorEq]
  rintro _ env R2 hle hE _
  (simp only [go_sem] at hE; obtain ⟨e11, e10, e1, e2⟩ := hE; simp only [go_sem, ↓reduceIte, nQ1, nQ2, nQ3, nQ4, nQ5, nQ6, reduceCtorEq, e11, e10, e1, e2]; dsimp only at *)
  refine ⟨fun h => absurd h (by omega), fun _ => ?_⟩
  exact ⟨none, 0, 0, rfl, by rw [hx]; exact ⟨[], ⟨none, 0, rfl, Nat.le_refl _, by simp⟩, rfl, by simp, by simp⟩⟩
 ·try simp only [go_sem, ↓reduceIte, nQ1, nQ2, nQ3, nQ4, nQ5, nQ6, reduceCtorEq, iQ1, iQ2, iQ3, iQ4, iQ5, iQ6, setG_no]
  have hN : Nodes R1 cs d.rule := ⟨h1, h3⟩
  clear h1 h2 h3 hcl
  refine vcLoop (Nat × List (List Value)) (fun p => [(11, .val (.int .i64 p.1)), (10, .val (.int .i64 d.rule.length)), (1, .loc 0 0), (2, .loc 1 0)]) (fun p => [.box [.val (.int .i64 d.kind), .val (.int .i64 d.day), .val (.int .i64 d.device), .val (.int .i64 d.seq), .val (.int .i64 d.mv.day), .val (.bool d.mv.drop), .val (.int .i64 d.mv.toDay), .val (.int .i64 d.mv.minute), .val (.int .i64 d.mv.length), .val (.int .i64 d.minute), .val (.int .i64 d.length), .sl 3 d.rule.length, .val (.string d.zone)],
   .box [.val (.int .i64 0), .val (.int .i64 0), .val (.int .i64 0), .val (.int .i64 0), .val (.int .i64 0), .val (.bool false), .val (.int .i64 0), .val (.int .i64 0), .val (.int .i64 0), .val (.int .i64 0), .val (.int .i64 0), .val (.slice none 0 0), .val (.string ⟨#[]⟩)], .dead, .row 149 8 p.2.flatten]) (fun p R => p.1 ≤ d.rule.length ∧ Nodes R p.2 d.rule) (fun p => d.rule.length - p.1) (0, cs) ?_ ?_ ?_ ?_
  ·(try simp only [go_sem, ↓reduceIte, nQ1, nQ2, nQ3, nQ4, nQ5, nQ6, reduceCtorEq]) <;> (repeat' (first | rfl | trivial | constructor | (intro h; exact absurd rfl h)))
  ·try simp only [go_sem, ↓reduceIte, nQ1, nQ2, nQ3, nQ4, nQ5, nQ6, reduceCtorEq]
  ·exact ⟨Nat.zero_le _, hN⟩
  rintro ⟨i, cs⟩ env R2 hle hE ⟨hi, hN⟩
  (simp only [go_sem] at hE; obtain ⟨e11, e10, e1, e2⟩ := hE; simp only [go_sem, ↓reduceIte, nQ1, nQ2, nQ3, nQ4, nQ5, nQ6, reduceCtorEq, e11, e10, e1, e2]; dsimp only at *)
  have hlen := hN.1
  have h8 := hN.len
  have hfl := length_flattenK h8
  refine ⟨fun hlt => ?_, fun hge => ?_⟩
  ·have hlt' : i < d.rule.length := by omega
   have hx := hN.2 i _ _ (List.getElem?_eq_getElem (by omega : i < cs.length)) (List.getElem?_eq_getElem hlt')
   obtain ⟨lv, hcx, hI, hIl⟩ := hx
   have hget : cs.flatten[i * 8 + 6]? = some lv := by
    rw [getElem?_flatten h8 i 6 _ (List.getElem?_eq_getElem (by omega : i < cs.length)) (by omega), hcx]
    rfl
   refine ⟨hlt, lv, hget, vcall (eCloneInts _ lv R2 hI hIl) ?_⟩
   intro R3 u hle3 hu
   obtain ⟨ua, ucap, rfl, hucap, huf⟩ := hu.form
   try simp only [go_sem, ↓reduceIte, nQ1, nQ2, nQ3, nQ4, nQ5, nQ6, reduceCtorEq, iQ1, iQ2, iQ3, iQ4, iQ5, iQ6, e11, e10, e1, e2]
   refine ⟨hlt, by omega, _, W.in64 (by omega), (i + 1, cs.set i (d.rule[i].cells (.slice ua (d.rule[i]).list.length ucap))), by dsimp only; omega, ?_, by dsimp only; omega, by simp [hlen], ?_⟩
   ·refine ⟨rfl, ?_⟩
    rw [flat_set cs h8 i 6 _ _ (List.getElem?_eq_getElem (by omega : i < cs.length)) (by omega), hcx]
    rfl
   ·intro j c x hj hx
    rw [List.getElem?_set] at hj
    split at hj
    ·rename_i hij
     subst hij
     rw [if_pos (by omega)] at hj
     simp only [Option.some.injEq] at hj
     rw [List.getElem?_eq_getElem hlt'] at hx
     simp only [Option.some.injEq] at hx
     subst hj hx
     exact ⟨_, rfl, hu, hIl⟩
    ·exact (hN.2 j c x hj hx).mono hle3
  ·intro b cap R3 hle3 hrow hcap hfr
   try simp only [go_sem, ↓reduceIte, nQ1, nQ2, nQ3, nQ4, nQ5, nQ6, reduceCtorEq, e1, e2]
   exact ⟨_, _, _, rfl, cs, by rw [← hlen]; exact RowIn.slK hrow h8 (by omega) hcap, hlen, fun j c x hj hx => (hN.2 j c x hj hx).mono hle3, hxl⟩
end Go.Proofs.YtojckjngjfgfdaaGreat
namespace Go.Proofs.YtojckjngjfgfdaaGreat
set_option linter.unusedSimpArgs false
set_option linter.unusedVariables false
open Go.Proofs.YtojckjngjfgfdaaGreat.Vc
/-! ### Parts of slices -/
theorem SlK.sub {R : RO} {a : Option Addr} {cap k : Nat} {xs : List (List Value)} (h : SlK R (.slice a xs.length cap) k xs) {l u : Nat} (hl : l ≤ u) (hu : u ≤ xs.length) : SlK R (.slice (if cap = l then a else a.map (·.add (l * k))) (u - l) (cap - l)) k ((xs.take u).drop l) := by
 obtain ⟨a', cap', e, hc, hf⟩ := h
 simp only [Value.slice.injEq] at e
 obtain ⟨rfl, _, rfl⟩ := e
 have hlen : ((xs.take u).drop l).length = u - l := by simp; omega
 refine ⟨_, _, by rw [hlen], by omega, fun i us hi => ?_⟩
 have hil : i < u - l := by rw [← hlen]; exact (List.getElem?_eq_some_iff.1 hi).1
 rw [List.getElem?_drop, List.getElem?_take_of_lt (by omega)] at hi
 obtain ⟨h1, ad, rfl, hR⟩ := hf (l + i) us hi
 refine ⟨h1, ad.add (l * k), by rw [if_neg (by omega)]; rfl, fun j v hj => ?_⟩
 have := hR j v hj
 rw [add_add] at this ⊢
 rw [add_add]
 rw [show l * k + (i * k + j) = (l + i) * k + j by rw [Nat.add_mul]; omega]
 exact this
theorem EdsV.sub {R : RO} {a : Option Addr} {cap : Nat} {ds : List De} (h : EdsV R (.slice a ds.length cap) ds) {l u : Nat} (hl : l ≤ u) (hu : u ≤ ds.length) : EdsV R (.slice (if cap = l then a else a.map (·.add (l * 13))) (u - l) (cap - l)) ((ds.take u).drop l) := by
 obtain ⟨cs, h1, h2, h3, h4⟩ := h
 rw [← h2] at h1
 refine ⟨_, SlK.sub h1 hl (by omega), by simp; omega, fun i c d hc hd => ?_, by simp; omega⟩
 have hil : i < u - l := by
  have := (List.getElem?_eq_some_iff.1 hd).1
  simp at this; omega
 rw [List.getElem?_drop, List.getElem?_take_of_lt (by omega)] at hc hd
 exact h3 _ c d hc hd
end Go.Proofs.YtojckjngjfgfdaaGreat
namespace Go.Proofs.YtojckjngjfgfdaaGreat
set_option linter.unusedSimpArgs false
set_option linter.unusedVariables false
open Go.Proofs.YtojckjngjfgfdaaGreat.Vc
/-! ### Package device: New, with, stamp, valid -/
/-- A device, as it lies. -/
def dvCells (d : Dv) (v : Value) : List Value := [.int .i64 d.id, .int .i64 d.epoch, .int .i64 d.next, v]
def DvR (R : RO) (r : Value) : Except Int Dv → Prop
 | .error k => r = .tuple #[.agg #[.int .i64 0, .int .i64 0, .int .i64 0, .slice none 0 0], .int .i64 k]
 | .ok d => ∃ v, r = .tuple #[.agg (dvCells d v).toArray, .int .i64 0] ∧ EdsV R v d.edits
theorem dNew (id : Int) (R : RO) : CallsR Tryz.prog 15 [.int .i64 id] R fun R' r => DvR R' r (dvNew id) := by
 refine callsT mix Tryz.func15 comp15 (by simp [Tryz.ntmps15]) ?_; simp only [go_sem, ↓reduceIte, nQ1, nQ2, nQ3, nQ4, nQ5, nQ6, reduceCtorEq, vc15, rs15]
 unfold dvNew
 refine ⟨fun h => ⟨fun h2 => ?_, fun h2 => ?_⟩, fun h => ?_⟩
 ·rw [if_neg (by omega)]; exact rfl
 ·rw [if_pos (by omega)]; exact ⟨_, rfl, EdsV.nil _⟩
 ·rw [if_neg (by omega)]; exact rfl
theorem dStamp (d : Dv) (v : Value) (e : Ed) (hv : v.oneCell' = true) (hb : 0 ≤ d.epoch ∧ d.epoch ≤ 63 ∧ 1 ≤ d.next ∧ d.next ≤ 17179869184) (R : RO) :
  CallsR Tryz.prog 55 [.agg (dvCells d v).toArray, e.val] R fun _ r => r = (Ed.val { e with device := d.id, seq := 64 * d.next + d.epoch }) := by
 simp only [dvCells, Ed.val]
 refine callsT mix Tryz.func55 comp55 (by simp [Tryz.ntmps55]) ?_; simp only [go_sem, ↓reduceIte, nQ1, nQ2, nQ3, nQ4, nQ5, nQ6, reduceCtorEq, vc55, rs55]
 exact ⟨_, W.in64 (by omega), _, W.in64 (by omega), rfl⟩
theorem dWith (d : Dv) (old v : Value) (ds : List De) (R : RO) (ho : old.oneCell' = true) (h : EdsV R v ds) :
  CallsR Tryz.prog 56 [.agg (dvCells d old).toArray, v] R fun R' r => ∃ v', r = .agg (dvCells d v').toArray ∧ EdsV R' v' ds := by
 have hdl : ds.length ≤ 1000000000 := by obtain ⟨_, _, _, _, h⟩ := h; exact h
 obtain ⟨a, cap, rfl, hc, hf⟩ := PlOK.of h
 simp only [dvCells]
 refine callsT mix Tryz.func56 comp56 (by simp [Tryz.ntmps56]) ?_; simp only [go_sem, ↓reduceIte, nQ1, nQ2, nQ3, nQ4, nQ5, nQ6, reduceCtorEq, vc56, rs56]
 refine ⟨by omega, by omega, ?_⟩
 refine vcLoopR (Nat × List Pl) (fun x => [(14, .val (.int .i64 x.1)), (13, .val (.int .i64 ds.length)), (12, .val (.slice a ds.length cap)), (2, .loc 0 0), (4, .loc 1 0)])
  (fun x => [.box [.val (.int .i64 d.id), .val (.int .i64 d.epoch), .val (.int .i64 d.next), .sl 2 x.2.length], .box [.val (.int .i64 0), .val (.int .i64 0), .val (.int .i64 0), .val (.slice none 0 0)], .row 31 13 (rowP x.2)])
  (fun x R => x.1 ≤ ds.length ∧ x.2.map (·.1) = ds.take x.1 ∧ ∀ p ∈ x.2, PlOK R p) (fun x => ds.length - x.1) (0, []) [] ?_ ?_ ?_ ?_
 ·(try simp only [go_sem, ↓reduceIte, nQ1, nQ2, nQ3, nQ4, nQ5, nQ6, reduceCtorEq]) <;> (repeat' (first | rfl | trivial | constructor | (intro h; exact absurd rfl h)))
 ·try simp only [go_sem, ↓reduceIte, nQ1, nQ2, nQ3, nQ4, nQ5, nQ6, reduceCtorEq]
 ·exact ⟨Nat.zero_le _, rfl, by simp⟩
 rintro ⟨i, ps⟩ env R1 hle1 hE ⟨hi, hps, hpo⟩
 (simp only [go_sem] at hE; obtain ⟨e14, e13, e12, e2, e4⟩ := hE; simp only [go_sem, ↓reduceIte, nQ1, nQ2, nQ3, nQ4, nQ5, nQ6, reduceCtorEq, e14, e13, e12, e2, e4]; dsimp only at *)
 have hpl : ps.length = i := by have := congrArg List.length hps; simp at this; omega
 refine ⟨fun hlt => ⟨hlt, ?_⟩, fun hge => ?_⟩
 ·have hlt' : i < ds.length := by omega
  obtain ⟨ad, p, had, hp1, hR, hpok⟩ := hf i hlt'
  have hcells : ∀ j u, (p.ed.cells)[j]? = some u → R1 ((ad.add (i * 13)).add j) u := fun j u hj => hle1 _ _ (hR j u hj)
  refine vat ad had ?_
  try simp only [go_sem, ↓reduceIte, nQ1, nQ2, nQ3, nQ4, nQ5, nQ6, reduceCtorEq]
  refine vloadn p.ed.cells rfl hcells ?_
  simp only [go_sem, ↓reduceIte, nQ1, nQ2, nQ3, nQ4, nQ5, nQ6, reduceCtorEq, Ed.cells, Pl.ed, De.ed, e14, e13, e12, e2, e4]
  have hC := dClone p.1 p.2.1 p.2.2.1 p.2.2.2 R1 (hpok.mono hle1)
  simp only [Ed.cells, De.ed] at hC
  refine vcall hC ?_
  rintro R2 v hle2 ⟨ra, rn, rc, rfl, hrv⟩
  simp only [go_sem, ↓reduceIte, nQ1, nQ2, nQ3, nQ4, nQ5, nQ6, reduceCtorEq, e14, e13, e12, e2, e4]
  refine vappO (rowP ps) rfl (by rw [rowP_len]) (by omega) ?_
  simp only [go_sem, ↓reduceIte, nQ1, nQ2, nQ3, nQ4, nQ5, nQ6, reduceCtorEq, e14, e13, e12, e2, e4]
  refine ⟨_, W.in64 (by omega), (i + 1, ps ++ [(p.1, ra, rn, rc)]), [0, 1, 5], ?_⟩
  try simp only [go_sem, ↓reduceIte, nQ1, nQ2, nQ3, nQ4, nQ5, nQ6, reduceCtorEq]
  refine ⟨by omega, ⟨rfl, by rw [rowP_snoc]; rfl⟩, by decide, by omega, ?_, fun q hq => ?_⟩
  ·rw [List.map_append, hps, List.take_succ_eq_append_getElem hlt', ← hp1]; rfl
  ·rcases List.mem_append.1 hq with hq | hq
   ·exact (hpo q hq).mono hle2
   ·simp only [List.mem_cons, List.not_mem_nil, or_false] at hq; subst hq; exact hrv
 ·obtain rfl : i = ds.length := by omega
  intro b cap' R2 hle2 hrow hcap hfr
  try simp only [go_sem, ↓reduceIte, nQ1, nQ2, nQ3, nQ4, nQ5, nQ6, reduceCtorEq, e2, e4]
  rw [List.take_length] at hps
  refine ⟨_, rfl, ?_⟩
  rw [← hps]
  exact EdsV.row hrow hcap (fun p hp => (hpo p hp).mono hle2) (by omega)
end Go.Proofs.YtojckjngjfgfdaaGreat
namespace Go.Proofs.YtojckjngjfgfdaaGreat
set_option linter.unusedSimpArgs false
set_option linter.unusedVariables false
open Go.Proofs.YtojckjngjfgfdaaGreat.Vc
/-! ### Package device: valid -/
theorem validD_seq {d : De} (h : validD d = true) : 1 ≤ d.seq ∧ d.seq ≤ 1099511627776 := by
 unfold validD validE betw at h
 simp only [Bool.and_eq_true, decide_eq_true_eq] at h
 exact h.1.1.2
theorem okEd_iff (n : Int) (e : De) : okEd n e = true ↔ validD e = true ∧ e.seq / 64 < n := by simp [okEd]
theorem cmpE_geq (a b : De) (ra rb : Option Addr) (rn rc rn' rc' : Nat) : (0 ≤ cmpE (a.ed ra rn rc) (b.ed rb rn' rc')) ↔ ¬ lessD a b = true := by
 have := cmpE_neg (a.ed ra rn rc) (b.ed rb rn' rc')
 rw [lessD_iff]
 simp only [De.ed] at this ⊢
 rw [← this]
 omega
theorem dValid (d : Dv) (v : Value) (R : RO) (h : EdsV R v d.edits) : CallsR Tryz.prog 52 [.agg (dvCells d v).toArray] R fun _ r => r = .bool (validV d) := by
 have hdl : d.edits.length ≤ 1000000000 := by obtain ⟨_, _, _, _, h⟩ := h; exact h
 obtain ⟨a, cap, rfl, hc, hf⟩ := PlOK.of h
 simp only [dvCells]
 refine callsT mix Tryz.func52 comp52 (by simp [Tryz.ntmps52]) ?_; simp only [go_sem, ↓reduceIte, nQ1, nQ2, nQ3, nQ4, nQ5, nQ6, reduceCtorEq, vc52, rs52]
 have hhdr : validV d = true → 0 ≤ d.id ∧ d.id ≤ 15 ∧ 0 ≤ d.epoch ∧ d.epoch ≤ 63 ∧ 1 ≤ d.next ∧ d.next ≤ 17179869184 ∧ d.edits.length ≤ 4096 := fun hT => by
  unfold validV hdrOK at hT
  simp only [Bool.and_eq_true, decide_eq_true_eq] at hT
  exact hT.1.1
 have hbad : ¬ (0 ≤ d.id ∧ d.id ≤ 15 ∧ 0 ≤ d.epoch ∧ d.epoch ≤ 63 ∧ 1 ≤ d.next ∧ d.next ≤ 17179869184 ∧ d.edits.length ≤ 4096) → Value.bool false = Value.bool (validV d) := fun hn => by
  cases hv : validV d with
  | false => rfl
  | true => exact absurd (hhdr hv) hn
 refine ⟨fun q1 => ⟨fun q2 => ⟨fun q3 => ⟨fun q4 => ⟨fun q5 => ⟨fun q6 => ⟨fun q7 => hbad (by omega), fun q7 => ?_⟩, fun q6 => hbad (by omega)⟩, fun q5 => hbad (by omega)⟩, fun q4 => hbad (by omega)⟩, fun q3 => hbad (by omega)⟩, fun q2 => hbad (by omega)⟩, fun q1 => hbad (by omega)⟩
 have hall : ∀ (i : Nat) (hi : i < d.edits.length), ¬ (okEd d.next d.edits[i] = true) → Value.bool false = Value.bool (validV d) := fun i hi hn => by
  cases hv : validV d with
  | false => rfl
  | true =>
   unfold validV at hv
   simp only [Bool.and_eq_true, decide_eq_true_eq, List.all_eq_true] at hv
   exact absurd (hv.1.2 _ (List.getElem_mem hi)) hn
 have hsrt : ∀ (i : Nat) (hi : i < d.edits.length), 0 < i → ¬ lessD (d.edits[i - 1]'(by omega)) d.edits[i] = true → Value.bool false = Value.bool (validV d) := fun i hi h0 hn => by
  cases hv : validV d with
  | false => rfl
  | true =>
   unfold validV at hv
   simp only [Bool.and_eq_true, decide_eq_true_eq] at hv
   exact absurd (List.pairwise_iff_getElem.1 hv.2 (i - 1) i (by omega) hi (by omega)) hn
 clear hbad hhdr
 refine vcLoop Nat (fun i => [(50, .val (.int .i64 i)), (49, .val (.int .i64 d.edits.length)), (48, .val (.slice a d.edits.length cap)), (1, .loc 0 0)])
  (fun _ => [.box [.val (.int .i64 d.id), .val (.int .i64 d.epoch), .val (.int .i64 d.next), .val (.slice a d.edits.length cap)]])
  (fun i _ => i ≤ d.edits.length ∧ (∀ e ∈ d.edits.take i, okEd d.next e = true) ∧ SortedD (d.edits.take i)) (fun i => d.edits.length - i) 0 ?_ ?_ ?_ ?_
 ·(try simp only [go_sem, ↓reduceIte, nQ1, nQ2, nQ3, nQ4, nQ5, nQ6, reduceCtorEq]) <;> (repeat' (first | rfl | trivial | constructor | (intro h; exact absurd rfl h)))
 ·try simp only [go_sem, ↓reduceIte, nQ1, nQ2, nQ3, nQ4, nQ5, nQ6, reduceCtorEq]
 ·exact ⟨Nat.zero_le _, by simp, List.Pairwise.nil⟩
 rintro i env R1 hle1 hE ⟨hi, hok, hso⟩
 (simp only [go_sem] at hE; obtain ⟨e50, e49, e48, e1⟩ := hE; simp only [go_sem, ↓reduceIte, nQ1, nQ2, nQ3, nQ4, nQ5, nQ6, reduceCtorEq, e50, e49, e48, e1]; dsimp only at *)
 refine ⟨fun hlt => ⟨hlt, ?_⟩, fun hge => ?_⟩
 ·have hlt' : i < d.edits.length := by omega
  obtain ⟨ad, p, had, hp1, hR, hpok⟩ := hf i hlt'
  have hcells : ∀ j u, (p.ed.cells)[j]? = some u → R1 ((ad.add (i * 13)).add j) u := fun j u hj => hle1 _ _ (hR j u hj)
  have htk := List.take_succ_eq_append_getElem hlt'
  have hA := hall i hlt'
  rw [← hp1] at htk hA
  refine vat ad had ?_
  try simp only [go_sem, ↓reduceIte, nQ1, nQ2, nQ3, nQ4, nQ5, nQ6, reduceCtorEq]
  refine vloadn p.ed.cells rfl hcells ?_
  simp only [go_sem, ↓reduceIte, nQ1, nQ2, nQ3, nQ4, nQ5, nQ6, reduceCtorEq, Ed.cells, Pl.ed, De.ed, e50, e49, e48, e1]
  refine vcall (eValid p.ed R1) ?_
  rintro R2 v hle2 rfl
  rw [validE_ed p hpok.len]
  simp only [go_sem, ↓reduceIte, nQ1, nQ2, nQ3, nQ4, nQ5, nQ6, reduceCtorEq, e50, e49, e48, e1]
  refine ⟨fun hv => ⟨by omega, ?_⟩, fun hv => hA (by rw [okEd_iff]; simp [hv])⟩
  have hsq := validD_seq hv
  have htd : p.1.seq.tdiv 64 = p.1.seq / 64 := tdiv_nonneg' (by omega) (by omega)
  refine ⟨_, W.in64 (by rw [htd]; omega), ?_⟩
  rw [htd]
  have hnew : ∀ R', RO.le R1 R' → p.1.seq / 64 < d.next → (0 < i → lessD (d.edits[i - 1]'(by omega)) p.1 = true) → (∀ e ∈ d.edits.take (i + 1), okEd d.next e = true) ∧ SortedD (d.edits.take (i + 1)) := fun R' _ hn hl => by
   rw [htk]
   refine ⟨fun e he => ?_, List.pairwise_append.2 ⟨hso, List.pairwise_singleton _ _, fun x hx y hy => ?_⟩⟩
   ·rcases List.mem_append.1 he with he | he
    ·exact hok e he
    ·simp only [List.mem_cons, List.not_mem_nil, or_false] at he; subst he
     rw [okEd_iff]; exact ⟨hv, hn⟩
   ·simp only [List.mem_cons, List.not_mem_nil, or_false] at hy; subst hy
    obtain ⟨j, hj, rfl⟩ := List.mem_take_iff_getElem.1 hx
    by_cases hji : j = i - 1
    ·subst hji; exact hl (by omega)
    ·have h1 := List.pairwise_iff_getElem.1 hso j (i - 1) (by simp; omega) (by simp; omega) (by omega)
     rw [List.getElem_take, List.getElem_take] at h1
     exact lessD_trans h1 (hl (by omega))
  refine ⟨fun hn => ⟨fun hpos => ?_, fun hz => ?_⟩, fun hn => hA (by rw [okEd_iff]; omega)⟩
  ·obtain ⟨ad', q, had', hq1, hR', hqok⟩ := hf (i - 1) (by omega)
   have hti : ((i : Int) - 1).toNat = i - 1 := by omega
   have hS := hsrt i hlt' (by omega)
   rw [← hp1, ← hq1] at hS
   refine ⟨_, W.in64 (by omega), by omega, by omega, ?_⟩
   rw [hti]
   refine vat ad' had' ?_
   try simp only [go_sem, ↓reduceIte, nQ1, nQ2, nQ3, nQ4, nQ5, nQ6, reduceCtorEq]
   refine vloadn q.ed.cells rfl (fun j u hj => hle2 _ _ (hle1 _ _ (hR' j u hj))) ?_
   simp only [go_sem, ↓reduceIte, nQ1, nQ2, nQ3, nQ4, nQ5, nQ6, reduceCtorEq, Ed.cells, Pl.ed, De.ed, e50, e49, e48, e1]
   refine vcall (dOrder q.ed p.ed R2) ?_
   rintro R3 v hle3 rfl
   simp only [go_sem, ↓reduceIte, nQ1, nQ2, nQ3, nQ4, nQ5, nQ6, reduceCtorEq, e50, e49, e48, e1]
   have hcg : (0 ≤ cmpE q.ed p.ed) ↔ ¬ lessD q.1 p.1 = true := cmpE_geq _ _ _ _ _ _ _ _
   refine ⟨fun h0 => hS (hcg.1 h0), fun h0 => ?_⟩
   have hl : lessD q.1 p.1 = true := by
    cases hq : lessD q.1 p.1 with
    | true => rfl
    | false => exact absurd (hcg.2 (by rw [hq]; simp)) h0
   refine ⟨_, W.in64 (by omega), i + 1, by omega, by constructor, by omega, ?_⟩
   exact hnew R3 (RO.le_trans hle2 hle3) (by omega) (fun _ => by rw [← hq1]; exact hl)
  ·obtain rfl : i = 0 := by omega
   refine ⟨_, W.in64 (by omega), 1, by omega, by constructor, by omega, ?_⟩
   exact hnew R2 hle2 (by omega) (fun h => absurd h (by omega))
 ·obtain rfl : i = d.edits.length := by omega
  rw [List.take_length] at hok hso
  have : validV d = true := by
   unfold validV hdrOK
   simp only [Bool.and_eq_true, decide_eq_true_eq, List.all_eq_true]
   exact ⟨⟨by omega, hok⟩, hso⟩
  rw [this]
end Go.Proofs.YtojckjngjfgfdaaGreat
namespace Go.Proofs.YtojckjngjfgfdaaGreat
set_option linter.unusedSimpArgs false
set_option linter.unusedVariables false
open Go.Proofs.YtojckjngjfgfdaaGreat.Vc
/-! ### Package device: Add, Restore -/
theorem EdsV.one {R : RO} {v : Value} {ds : List De} (h : EdsV R v ds) : v.oneCell' = true := by
 obtain ⟨_, _, rfl, _⟩ := h.form
 rfl
theorem validV_hdr {d : Dv} (h : validV d = true) : 0 ≤ d.id ∧ d.id ≤ 15 ∧ 0 ≤ d.epoch ∧ d.epoch ≤ 63 ∧ 1 ≤ d.next ∧ d.next ≤ 17179869184 ∧ d.edits.length ≤ 4096 := by
 unfold validV hdrOK at h
 simp only [Bool.and_eq_true, decide_eq_true_eq] at h
 exact h.1.1
theorem dAdd (d : Dv) (v : Value) (e : De) (ra : Option Addr) (rn rc : Nat) (R : RO) (h : EdsV R v d.edits) (he : RuleV R (.slice ra rn rc) e.rule) :
  CallsR Tryz.prog 17 [.agg (dvCells d v).toArray, .agg ((e.ed ra rn rc).cells).toArray] R fun R' r => DvR R' r (dvAdd d e) := by
 have hV := dValid d v
 have h0 := h
 have hrn := he.len
 subst hrn
 have hCl := dCloneEdits d.edits v
 have hSt := dStamp d v
 have hdl : d.edits.length ≤ 1000000000 := by obtain ⟨_, _, _, _, h⟩ := h; exact h
 obtain ⟨a, cap, rfl, hc, hf⟩ := h.form
 simp only [dvCells] at hV hSt ⊢
 simp only [Ed.cells, De.ed]
 refine callsT mix Tryz.func17 comp17 (by simp [Tryz.ntmps17]) ?_; simp only [go_sem, ↓reduceIte, nQ1, nQ2, nQ3, nQ4, nQ5, nQ6, reduceCtorEq, vc17, rs17]
 refine vcall (hV R h0) ?_
 rintro R1 r hle1 rfl
 try simp only [go_sem, ↓reduceIte, nQ1, nQ2, nQ3, nQ4, nQ5, nQ6, reduceCtorEq]
 unfold dvAdd
 refine ⟨fun hv => ?_, fun hv => ?_⟩
 ·refine vcall (eValid ⟨e.kind, e.day, 0, 1, e.mv, e.minute, e.length, ra, e.rule.length, rc, e.zone⟩ R1) ?_
  rintro R2 r hle2 rfl
  rw [show validE ⟨e.kind, e.day, 0, 1, e.mv, e.minute, e.length, ra, e.rule.length, rc, e.zone⟩ = validD (bareD e) from validE_ed (bareD e, ra, e.rule.length, rc) rfl]
  try simp only [go_sem, ↓reduceIte, nQ1, nQ2, nQ3, nQ4, nQ5, nQ6, reduceCtorEq]
  refine ⟨fun hb => ?_, fun hb => ⟨fun hl => ⟨fun hn => ?_, fun hn => ?_⟩, fun hl => ?_⟩⟩
  ·rw [if_neg (by rw [hb]; simp)]
   exact rfl
  ·rw [if_pos ⟨hv, hb⟩, if_pos (.inr hn)]
   exact rfl
  ·have hh := validV_hdr hv
   rw [if_pos ⟨hv, hb⟩, if_neg (by omega)]
   refine vhandE (hCl R2 ((h0.mono hle1).mono hle2)) rfl ?_
   rintro R3 bs r hle3 ⟨ps, hps, hpo, hbs⟩
   have hpl : ps.length = d.edits.length := by rw [← hps]; simp
   have hfin : ∀ R' w, RO.le R3 R' → EdsV R' w (d.edits ++ [stampD d e]) → DvR R' (.tuple #[.agg #[.int .i64 d.id, .int .i64 d.epoch, .int .i64 (d.next + 1), w], .int .i64 0]) (.ok ⟨d.id, d.epoch, d.next + 1, d.edits ++ [stampD d e]⟩) := fun R' w _ hw => ⟨w, rfl, hw⟩
   have hW := fun R' old w ds ho hw => dWith ⟨d.id, d.epoch, d.next + 1, []⟩ old w ds R' ho hw
   simp only [dvCells] at hW
   obtain ⟨q, hq⟩ : ∃ q : Pl, q = (stampD d e, ra, e.rule.length, rc) := ⟨_, rfl⟩
   have hqok : ∀ R', RO.le R R' → PlOK R' q := fun R' hle => by rw [hq]; exact he.mono hle
   have hq1 : q.1 = stampD d e := by rw [hq]
   have hqc : q.ed.cells = [.int .i64 e.kind, .int .i64 e.day, .int .i64 d.id, .int .i64 (64 * d.next + d.epoch), .int .i64 e.mv.day, .bool e.mv.drop, .int .i64 e.mv.toDay, .int .i64 e.mv.minute, .int .i64 e.mv.length, .int .i64 e.minute, .int .i64 e.length, .slice ra e.rule.length rc, .string e.zone] := by rw [hq]; rfl
   have hrowE : ∀ R' b cap, RO.le R3 R' → RowIn R' b (rowP (ps ++ [q])) → (rowP (ps ++ [q])).length ≤ cap * 13 → EdsV R' (.slice (some ⟨b, 0, none⟩) (d.edits.length + 1) cap) (d.edits ++ [stampD d e]) := fun R' b cap hle hrow hcap => by
    have h1 := EdsV.row hrow hcap (fun p hp => by
     rcases List.mem_append.1 hp with hp | hp
     ·exact (hpo p hp).mono hle
     ·simp only [List.mem_cons, List.not_mem_nil, or_false] at hp; subst hp
      exact hqok R' (RO.le_trans hle1 (RO.le_trans hle2 (RO.le_trans hle3 hle)))) (by simp; omega)
    rw [List.map_append, hps, List.map_cons, List.map_nil, hq1, List.length_append, hpl] at h1
    exact h1
   have hrg : List.range' 4 2 = [4, 5] := rfl
   rcases hbs with ⟨hnil, rfl, rfl⟩ | ⟨rfl, rfl⟩
   ·have hp0 : ps = [] := List.eq_nil_of_length_eq_zero (by rw [hpl, hnil]; rfl)
    try simp only [go_sem, ↓reduceIte, nQ1, nQ2, nQ3, nQ4, nQ5, nQ6, reduceCtorEq]
    refine vcall (hSt ⟨e.kind, e.day, 0, 1, e.mv, e.minute, e.length, ra, e.rule.length, rc, e.zone⟩ rfl ⟨by omega, by omega, by omega, by omega⟩ R3) ?_
    rintro R4 r hle4 rfl
    simp only [Ed.val]
    try simp only [go_sem, ↓reduceIte, nQ1, nQ2, nQ3, nQ4, nQ5, nQ6, reduceCtorEq]
    refine ⟨_, W.in64 (by omega), ?_⟩
    refine vfreeze ?_
    try simp only [go_sem, ↓reduceIte, nQ1, nQ2, nQ3, nQ4, nQ5, nQ6, reduceCtorEq, hrg, renB]
    intro b cap' R5 hle5 hrow hcap' hfr
    have hE := hrowE R5 b cap' (RO.le_trans hle4 hle5) (by rw [hp0]; simp only [List.nil_append]; rw [show rowP [q] = q.ed.cells from by simp [rowP], hqc]; exact hrow) (by rw [hp0]; simp only [List.nil_append]; rw [show rowP [q] = q.ed.cells from by simp [rowP], hqc]; exact hcap')
    rw [show d.edits.length + 1 = 1 by rw [hnil]; rfl] at hE
    refine vcall (hW R5 _ _ _ rfl hE) ?_
    rintro R6 w hle6 ⟨v', rfl, hv'⟩
    have hv1 := hv'.one
    obtain ⟨va, vc, rfl, _⟩ := hv'.form
    try simp only [go_sem, ↓reduceIte, nQ1, nQ2, nQ3, nQ4, nQ5, nQ6, reduceCtorEq]
    rw [List.length_append] at hv'
    exact hfin R6 _ (RO.le_trans hle4 (RO.le_trans hle5 hle6)) hv'
   ·try simp only [go_sem, ↓reduceIte, nQ1, nQ2, nQ3, nQ4, nQ5, nQ6, reduceCtorEq]
    refine vcall (hSt ⟨e.kind, e.day, 0, 1, e.mv, e.minute, e.length, ra, e.rule.length, rc, e.zone⟩ rfl ⟨by omega, by omega, by omega, by omega⟩ R3) ?_
    rintro R4 r hle4 rfl
    simp only [Ed.val]
    try simp only [go_sem, ↓reduceIte, nQ1, nQ2, nQ3, nQ4, nQ5, nQ6, reduceCtorEq]
    refine vappO (rowP ps) rfl (by rw [rowP_len, hpl]) (by omega) ?_
    try simp only [go_sem, ↓reduceIte, nQ1, nQ2, nQ3, nQ4, nQ5, nQ6, reduceCtorEq, hrg, renB]
    refine ⟨_, W.in64 (by omega), ?_⟩
    refine vfreeze ?_
    try simp only [go_sem, ↓reduceIte, nQ1, nQ2, nQ3, nQ4, nQ5, nQ6, reduceCtorEq, hrg, renB]
    intro b cap' R5 hle5 hrow hcap' hfr
    refine vcall (hW R5 _ _ _ rfl (hrowE R5 b cap' (RO.le_trans hle4 hle5) (by rw [rowP_snoc, hqc]; exact hrow) (by rw [rowP_snoc, hqc, List.length_append]; exact hcap'))) ?_
    rintro R6 w hle6 ⟨v', rfl, hv'⟩
    have hv1 := hv'.one
    obtain ⟨va, vc, rfl, _⟩ := hv'.form
    try simp only [go_sem, ↓reduceIte, nQ1, nQ2, nQ3, nQ4, nQ5, nQ6, reduceCtorEq]
    rw [List.length_append] at hv'
    exact hfin R6 _ (RO.le_trans hle4 (RO.le_trans hle5 hle6)) hv'
  ·rw [if_pos ⟨hv, hb⟩, if_pos (.inl (by omega))]
   exact rfl
 ·rw [if_neg (by rw [hv]; simp)]
  exact rfl
theorem dRestore (d : Dv) (v : Value) (ep : Int) (R : RO) (h : EdsV R v d.edits) : CallsR Tryz.prog 21 [.agg (dvCells d v).toArray, .int .i64 ep] R fun R' r => DvR R' r (dvRestore d ep) := by
 have hV := dValid d v
 have h0 := h
 have hW := fun R' old w ds ho hw => dWith ⟨d.id, ep, d.next, []⟩ old w ds R' ho hw
 obtain ⟨a, cap, rfl, hc, hf⟩ := h.form
 simp only [dvCells] at hV hW ⊢
 refine callsT mix Tryz.func21 comp21 (by simp [Tryz.ntmps21]) ?_; simp only [go_sem, ↓reduceIte, nQ1, nQ2, nQ3, nQ4, nQ5, nQ6, reduceCtorEq, vc21, rs21]
 refine vcall (hV R h0) ?_
 rintro R1 r hle1 rfl
 try simp only [go_sem, ↓reduceIte, nQ1, nQ2, nQ3, nQ4, nQ5, nQ6, reduceCtorEq]
 unfold dvRestore
 refine ⟨fun hv => ⟨fun h1 => ⟨fun h2 => ?_, fun h2 => ⟨fun h3 => ?_, fun h3 => ?_⟩⟩, fun h1 => ?_⟩, fun hv => ?_⟩
 ·rw [if_neg (by omega)]; exact rfl
 ·rw [if_pos ⟨hv, by omega, by omega⟩, if_pos h3]; exact rfl
 ·rw [if_pos ⟨hv, by omega, by omega⟩, if_neg h3]
  refine vcall (hW R1 _ _ _ rfl (h0.mono hle1)) ?_
  rintro R2 w hle2 ⟨v', rfl, hv'⟩
  have hv1 := hv'.one
  obtain ⟨va, vc, rfl, _⟩ := hv'.form
  try simp only [go_sem, ↓reduceIte, nQ1, nQ2, nQ3, nQ4, nQ5, nQ6, reduceCtorEq]
  exact ⟨_, rfl, hv'⟩
 ·rw [if_neg (by omega)]; exact rfl
 ·rw [if_neg (by rw [hv]; simp)]; exact rfl
end Go.Proofs.YtojckjngjfgfdaaGreat
namespace Go.Proofs.YtojckjngjfgfdaaGreat
set_option linter.unusedSimpArgs false
set_option linter.unusedVariables false
open Go.Proofs.YtojckjngjfgfdaaGreat.Vc
/-! ### The reference's order and validity -/
theorem rLess (a b : Ed) (R : RO) : CallsR Tryz.prog 91 [a.val, b.val] R fun _ v => v = .bool (lessE a b) := by
 simp only [Ed.val]
 refine callsT mix Tryz.func91 comp91 (by simp [Tryz.ntmps91]) ?_; simp only [go_sem, ↓reduceIte, nQ1, nQ2, nQ3, nQ4, nQ5, nQ6, reduceCtorEq, vc91, rs91]
 unfold lessE
 repeat' (with_reducible first | refine And.intro ?_ ?_ | intro _)
 all_goals (congr 1)
 all_goals first
  | rfl
  | (simp; done)
  | (simp; omega)
  | (rw [decide_eq_decide]; omega)
  | (symm; rw [decide_eq_true_iff]; omega)
  | (symm; rw [decide_eq_false_iff_not]; omega)
theorem rOverrules (a b : Ed) (R : RO) : CallsR Tryz.prog 73 [a.val, b.val] R fun _ v => v = .bool (overE a b) := by
 have hL := rLess a b
 simp only [Ed.val] at hL ⊢
 refine callsT mix Tryz.func73 comp73 (by simp [Tryz.ntmps73]) ?_; simp only [go_sem, ↓reduceIte, nQ1, nQ2, nQ3, nQ4, nQ5, nQ6, reduceCtorEq, vc73, rs73]
 refine vcall (hL R) ?_
 rintro R1 v h1 rfl
 try simp only [go_sem, ↓reduceIte, nQ1, nQ2, nQ3, nQ4, nQ5, nQ6, reduceCtorEq]
 unfold overE
 generalize lessE a b = l
 clear hL
 repeat' (with_reducible first | refine And.intro ?_ ?_ | intro _)
 all_goals (congr 1)
 all_goals (try subst_vars)
 all_goals (repeat' split)
 all_goals first
  | rfl
  | (exfalso; omega)
  | (simp; done)
  | (simp; omega)
  | (cases l <;> simp <;> omega)
  | (cases l <;> simp_all <;> omega)
theorem rValidMove (m : Mv) (R : RO) : CallsR Tryz.prog 69 [m.val] R fun _ v => v = .bool (moveOK m) := by
 obtain ⟨day, drop, toDay, minute, length⟩ := m
 simp only [Mv.val]
 refine callsT mix Tryz.func69 comp69 (by simp [Tryz.ntmps69]) ?_; simp only [go_sem, ↓reduceIte, nQ1, nQ2, nQ3, nQ4, nQ5, nQ6, reduceCtorEq, vc69, rs69]
 unfold moveOK betw
 cases drop
 all_goals dsimp only
 all_goals repeat' (with_reducible first | refine And.intro ?_ ?_ | intro _)
 all_goals (congr 1)
 all_goals first
  | rfl
  | (simp; done)
  | (simp; omega)
  | (simp_all; done)
  | (simp_all; omega)
end Go.Proofs.YtojckjngjfgfdaaGreat
namespace Go.Proofs.YtojckjngjfgfdaaGreat
set_option linter.unusedSimpArgs false
set_option linter.unusedVariables false
open Go.Proofs.YtojckjngjfgfdaaGreat.Vc
theorem zone_z (z : ByteArray) : (z == ⟨#[]⟩) = decide ((z.size : Int) = 0) := by
 obtain ⟨a⟩ := z
 by_cases h : a = #[]
 ·subst h; rfl
 ·have h1 : ((⟨a⟩ : ByteArray) == ⟨#[]⟩) = false := by
   cases hb : ((⟨a⟩ : ByteArray) == ⟨#[]⟩) with
   | false => rfl
   | true =>
    exfalso
    have h2 : (a == #[]) = true := hb
    exact h (by simpa using h2)
  rw [h1]
  symm
  rw [decide_eq_false_iff_not]
  intro h2
  have h3 : a.size = 0 := by
   have : (⟨a⟩ : ByteArray).size = a.size := rfl
   omega
  exact h (by simpa using h3)
set_option maxRecDepth 100000 in
set_option maxHeartbeats 4000000 in
theorem rValid (e : Ed) (R : RO) : CallsR Tryz.prog 58 [e.val] R fun _ v => v = .bool (validE e) := by
  have hm := rValidMove e.mv
  simp only [Ed.val, Mv.val] at hm ⊢
  refine callsT mix Tryz.func58 comp58 (by simp [Tryz.ntmps58]) ?_; simp only [go_sem, ↓reduceIte, nQ1, nQ2, nQ3, nQ4, nQ5, nQ6, reduceCtorEq, vc58, rs58]
  repeat' (with_reducible first
    | refine And.intro ?_ ?_
    | intro _
    | (refine vcall (hm _) ?_; rintro _ _ _ rfl; try simp only [go_sem, ↓reduceIte, nQ1, nQ2, nQ3, nQ4, nQ5, nQ6, reduceCtorEq]))
  all_goals (congr 1)
  all_goals (unfold validE kindE betw restZ mvZ)
  all_goals first
    | (simp_all [empty_beq]; done)
    | (simp_all [empty_beq]; omega)
    | (simp only [zone_z] at *; simp_all; done)
    | (simp only [zone_z] at *; simp_all; omega)
    | (have hzs : (e.zone == ⟨#[]⟩) = false → 1 ≤ (e.zone.size : Int) := fun h => by rw [zone_z, decide_eq_false_iff_not] at h; omega
       simp_all [empty_beq]; done)
end Go.Proofs.YtojckjngjfgfdaaGreat
