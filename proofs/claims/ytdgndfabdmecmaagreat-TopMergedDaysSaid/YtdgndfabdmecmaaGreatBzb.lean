/- Lemmas of our own, no statement of the seat; the last one of the claim's texts proves the law. -/
import Derived.Test.YtdgndfabdmecmaaGreatBza
import Derived.Test.YtdgndfabdmecmaaGreatVcH
import Derived.Test.YtdgndfabdmecmaaGreatRows
import Derived.Test.YtdgndfabdmecmaaGreatVcI
open Nat renaming reduceEqDiff → Qa, reduceAdd → Qb, reduceMul → Qc, reduceLeDiff → Qd, reduceLT → Qe, reduceBNe → Qf
open Int renaming reduceLE → Ja, reduceLT → Jb, reduceToNat → Jc, cast_ofNat_Int → Jd, reduceEq → Je, reduceNe → Jf
set_option linter.unusedSimpArgs false
set_option linter.unusedVariables false
namespace Go.Proofs.YtdgndfabdmecmaaGreat
open Go.Proofs.YtdgndfabdmecmaaGreat.Vc
def vc84 : VCode := (qz [qo 2 (qw 0)] (qz [qo 3 (qw 0)] (.seq (qz [qm 6 0,qn 7 6,qo 8 (qw 0)] (.block 0 (.loop (qz [qo 9 (qb .lss 8 7)] (.seq (.cond (qu 9) .skip (.exit 0)) (.seq (.block 1 (qz [qi 10 6 8 1,ql 11 10,qm 5 11] (qz [qm 12 5,qm 13 3,qo 14 (qb .neq 12 13)] (.cond (qu 14) (qz [qm 15 5,qm 2 15] .ret) .skip)))) (.ops [qo 16 (qc .add 8 1),qm 8 16]))))))) (qz [qm 17 3,qm 2 17] .ret))))
def rs84 : List RV := [.tmp 2]
set_option maxRecDepth 100000 in
theorem comp84 : compFn Tryz.prog Tryz.f84 = some (vc84, rs84) := by kernel_rfl
def vc85 : VCode := (qz [qo 6 (qy false)] (.seq (qz [qm 10 0,qn 11 10,qm 12 1,qn 13 12,qo 14 (qb .neq 11 13)] (.cond (qu 14) (qz [qo 6 (qy false)] .ret) .skip)) (.seq (qz [qm 15 0,qn 16 15,qo 17 (qw 0)] (.block 0 (.loop (qz [qo 18 (qb .lss 17 16)] (.seq (.cond (qu 18) .skip (.exit 0)) (.seq (.block 1 (qz [qm 19 17,qi 20 15 17 8,qo 21 (.load (some 8) (qu 20)),qo 8 (.alloc [.int .i64 0,.int .i64 0,.int .i64 0,.int .i64 0,.int .i64 0,.int .i64 0,.slice none 0 0,(.string (⟨#[]⟩ : ByteArray))]),qm 7 19,qs (.store 8 (qu 8) (qu 21))] (qz [qm 22 1,qm 23 7,qi 24 22 23 8,qo 25 (.load (some 8) (qu 24)),qo 9 (.alloc [.int .i64 0,.int .i64 0,.int .i64 0,.int .i64 0,.int .i64 0,.int .i64 0,.slice none 0 0,(.string (⟨#[]⟩ : ByteArray))]),qs (.store 8 (qu 9) (qu 25))] (qz [qm 26 2,qo 27 (.load (some 8) (qu 8)),qo 28 (.load (some 8) (qu 9)),qo 29 (.callv true (qu 26) [qu 27,qu 28]),qo 30 (.un .not (qu 29))] (.cond (qu 30) (qz [qo 6 (qy false)] .ret) .skip))))) (.ops [qo 31 (qc .add 17 1),qm 17 31]))))))) (qz [qo 6 (qy true)] .ret))))
def rs85 : List RV := [.tmp 6]
set_option maxRecDepth 100000 in
theorem comp85 : compFn Tryz.prog Tryz.f85 = some (vc85, rs85) := by kernel_rfl
def vc88 : VCode := (qz [qo 4 (qw 0)] (.seq (.block 0 (.loop (.seq (qz [qm 6 1,qo 7 (qc .neq 6 0)] (.cond (qu 7) .skip (.exit 0))) (.block 1 (qz [qm 8 0,qm 9 1,qo 10 (qb .rem 8 9),qm 5 10] (qz [qm 11 1,qm 0 11] (.ops [qm 12 5,qm 1 12]))))))) (qz [qm 13 0,qm 4 13] .ret)))
def rs88 : List RV := [.tmp 4]
set_option maxRecDepth 100000 in
theorem comp88 : compFn Tryz.prog Tryz.f88 = some (vc88, rs88) := by kernel_rfl
def vc89 : VCode := (qz [qo 4 (.box (qu 0)),qo 7 (.box (qu 3)),qo 8 (qw 0),qo 9 (qy false)] (qz [qm 15 1,qm 10 15] (.seq (qz [qo 11 (qw 1)] (.block 0 (.loop (.seq (qz [qm 16 11,qf 17 7 0,ql 18 17,qo 19 (qb .lss 16 18)] (.cond (qu 19) .skip (.exit 0))) (.seq (.block 1 (.ops [qm 22 10,qo 23 (.load (some 4) (qu 4)),qm 24 2,qm 25 11,qo 26 (.call true 118 [qu 23,qu 24,qu 25]),qo 27 (qb .add 22 26),qm 10 27])) (.ops [qm 20 11,qo 21 (qc .add 20 1),qm 11 21])))))) (qz [qo 12 (qw 0)] (qz [qo 13 (qw (-1))] (.seq (qz [qm 28 10,qm 14 28] (.block 2 (.loop (.seq (qz [qm 29 14,qm 30 10,qo 31 (.load (some 4) (qu 4)),qm 32 2,qf 33 7 0,ql 34 33,qo 35 (.call true 118 [qu 31,qu 32,qu 34]),qo 36 (qb .add 30 35),qo 37 (qb .lss 29 36)] (.cond (qu 37) .skip (.exit 2))) (.seq (.block 3 (qz [qm 40 14,qo 41 (qc .rem 40 7),qf 42 7 2,ql 43 42,qo 44 (qb .eql 41 43)] (.cond (qu 44) (qz [qm 45 12,qo 46 (qc .add 45 1),qm 12 46] (qz [qm 47 14,qm 13 47] (qz [qm 48 12,qf 49 7 1,ql 50 49,qo 51 (qb .eql 48 50),qm 52 51,qt 53 52 (qe 7 1),qt 54 52 (qd 53),qt 55 52 (qc .lss 54 5),qo 56 (qr 52 55)] (.cond (qu 56) (qz [qm 57 14,qm 8 57,qo 9 (qy true)] .ret) .skip)))) .skip))) (.ops [qm 38 14,qo 39 (qc .add 38 1),qm 14 39])))))) (qz [qm 58 13,qf 59 7 1,ql 60 59,qo 61 (qc .eql 60 5),qm 62 61,qt 63 62 (qv 13),qt 64 62 (qc .geq 63 0),qo 65 (qr 62 64),qm 8 58,qm 9 65] .ret)))))))
def rs89 : List RV := [.tmp 8, .tmp 9]
set_option maxRecDepth 100000 in
theorem comp89 : compFn Tryz.prog Tryz.f89 = some (vc89, rs89) := by kernel_rfl
def vc90 : VCode := (qz [qo 3 (.box (qu 1)),qo 4 (.mov (.const (.slice none 0 0)))] (qz [qm 8 0,qo 9 (.load (some 2) (qu 3)),qo 10 (.bslice 95 2 1 [.int .i64 0,.int .i64 0] [(0,(2,qu 9))]),qo 11 (.append 95 2 16 (qu 8) (qu 10)),qm 5 11] (.seq (qz [qm 12 5,qn 13 12,qo 14 (qc .sub 13 1),qm 6 14] (.block 0 (.loop (.seq (qz [qm 15 6,qo 16 (qc .gtr 15 0),qm 17 16,qt 18 17 (qv 5),qt 19 17 (qv 6),qt 20 17 (qc .sub 19 1),qt 21 17 (qh 18 20 2),qt 22 17 (qe 21 0),qt 23 17 (qd 22),qt 24 17 (qv 5),qt 25 17 (qv 6),qt 26 17 (qh 24 25 2),qt 27 17 (qe 26 0),qt 28 17 (qd 27),qt 29 17 (qb .gtr 23 28),qo 30 (qr 17 29)] (.cond (qu 30) .skip (.exit 0))) (.seq (.block 1 (qz [qm 33 5,qm 34 6,qi 35 33 34 2,qo 36 (.load (some 2) (qu 35)),qo 7 (.alloc [.int .i64 0,.int .i64 0]),qs (.store 2 (qu 7) (qu 36))] (qz [qm 37 5,qm 38 6,qm 39 5,qm 40 6,qo 41 (qc .sub 40 1),qi 42 39 41 2,qo 43 (.load (some 2) (qu 42)),qi 44 37 38 2,qs (.store 2 (qu 44) (qu 43))] (.ops [qm 45 5,qm 46 6,qo 47 (qc .sub 46 1),qo 48 (.load (some 2) (qu 7)),qi 49 45 47 2,qs (.store 2 (qu 49) (qu 48))])))) (.ops [qm 31 6,qo 32 (qc .sub 31 1),qm 6 32])))))) (qz [qm 50 5,qm 4 50] .ret))))
def rs90 : List RV := [.tmp 4]
set_option maxRecDepth 100000 in
theorem comp90 : compFn Tryz.prog Tryz.f90 = some (vc90, rs90) := by kernel_rfl
def vc91 : VCode := (qz [qo 2 (.box (qu 0)),qo 4 (qw 0)] (.seq (qz [qo 5 (.load (some 4) (qu 2)),qo 6 (.call true 50 [qu 5]),qo 7 (.un .not (qu 6))] (.cond (qu 7) (qz [qo 4 (qw 0)] .ret) .skip)) (.seq (qz [qo 8 (.load (some 4) (qu 2)),qm 9 1,qo 10 (.call true 119 [qu 8,qu 9])] (.cond (qu 10) (qz [qo 11 (.load (some 4) (qu 2)),qo 12 (.call true 120 [qu 11]),qo 13 (qc .add 12 1),qm 4 13] .ret) .skip)) (qz [qo 14 (.load (some 4) (qu 2)),qo 15 (.call true 120 [qu 14]),qm 4 15] .ret))))
def rs91 : List RV := [.tmp 4]
set_option maxRecDepth 100000 in
theorem comp91 : compFn Tryz.prog Tryz.f91 = some (vc91, rs91) := by kernel_rfl
def vc92 : VCode := (qz [qo 1 (.box (qu 0)),qo 2 (qw 0),qo 3 (qw 0),qo 4 (qw 0)] (.seq (qz [qo 9 (.load (some 4) (qu 1)),qo 10 (.call true 50 [qu 9]),qo 11 (.un .not (qu 10))] (.cond (qu 11) (qz [qo 2 (qw 0),qo 3 (qw 0),qo 4 (qw 1)] .ret) .skip)) (qz [qo 5 (qw 1)] (.seq (qz [qo 6 (qw 0)] (.block 0 (.loop (.seq (qz [qm 12 6,qf 13 1 3,ql 14 13,qn 15 14,qo 16 (qb .lss 12 15)] (.cond (qu 16) .skip (.exit 0))) (.seq (.block 1 (.ops [qm 19 5,qm 20 5,qf 21 1 3,ql 22 21,qm 23 6,qi 24 22 23 3,qf 25 24 0,ql 26 25,qf 29 1 3,ql 30 29,qm 31 6,qi 32 30 31 3,qf 33 32 0,ql 34 33,qo 27 (.call false 88 [qu 20,qu 26]),qo 28 (qb .quo 19 27),qo 35 (qb .mul 28 34),qm 5 35])) (.ops [qm 17 6,qo 18 (qc .add 17 1),qm 6 18])))))) (qz [qo 7 (qw 0)] (.seq (qz [qo 8 (qw 1)] (.block 2 (.loop (.seq (qz [qm 36 8,qm 37 5,qo 38 (qb .leq 36 37)] (.cond (qu 38) .skip (.exit 2))) (.seq (.block 3 (.ops [qm 41 7,qo 42 (.load (some 4) (qu 1)),qm 43 8,qo 44 (.call true 91 [qu 42,qu 43]),qo 45 (qb .add 41 44),qm 7 45])) (.ops [qm 39 8,qo 40 (qc .add 39 1),qm 8 40])))))) (qz [qm 46 5,qm 47 7,qm 2 46,qm 3 47,qo 4 (qw 0)] .ret)))))))
def rs92 : List RV := [.tmp 2, .tmp 3, .tmp 4]
set_option maxRecDepth 100000 in
theorem comp92 : compFn Tryz.prog Tryz.f92 = some (vc92, rs92) := by kernel_rfl
def vc93 : VCode := (qz [qo 2 (.mov (.const (.slice none 0 0)))] (.seq (qz [qm 3 0,qo 4 (.isnil false (qu 3))] (.cond (qu 4) (qz [qo 2 (.mov (.const (.slice none 0 0)))] .ret) .skip)) (qz [qo 5 (.bslice 87 8 0 [] []),qm 6 0,qo 7 (.append 87 8 88 (qu 5) (qu 6)),qm 2 7] .ret)))
def rs93 : List RV := [.tmp 2]
set_option maxRecDepth 100000 in
theorem comp93 : compFn Tryz.prog Tryz.f93 = some (vc93, rs93) := by kernel_rfl
def vc94 : VCode := (qz [qo 2 (.mov (.const (.slice none 0 0)))] (.seq (qz [qm 3 0,qo 4 (.isnil false (qu 3))] (.cond (qu 4) (qz [qo 2 (.mov (.const (.slice none 0 0)))] .ret) .skip)) (qz [qo 5 (.bslice 3 1 0 [] []),qm 6 0,qo 7 (.append 3 1 8 (qu 5) (qu 6)),qm 2 7] .ret)))
def rs94 : List RV := [.tmp 2]
set_option maxRecDepth 100000 in
theorem comp94 : compFn Tryz.prog Tryz.f94 = some (vc94, rs94) := by kernel_rfl
def vc98 : VCode := (qz [qo 2 (.box (qu 0)),qo 3 (.box (qu 1)),qo 4 (qy false)] (qz [qf 5 2 0,ql 6 5,qf 7 3 0,ql 8 7,qo 9 (qb .eql 6 8),qm 10 9,qt 11 10 (qe 2 1),qt 12 10 (qd 11),qt 13 10 (qe 3 1),qt 14 10 (qd 13),qt 15 10 (qb .eql 12 14),qo 16 (qr 10 15),qm 17 16,qt 18 17 (qe 2 2),qt 19 17 (qd 18),qt 20 17 (qe 3 2),qt 21 17 (qd 20),qt 22 17 (qb .eql 19 21),qo 23 (qr 17 22),qm 24 23,qt 25 24 (qe 2 3),qt 26 24 (qd 25),qt 27 24 (qe 3 3),qt 28 24 (qd 27),qt 29 24 (qb .eql 26 28),qo 30 (qr 24 29),qm 31 30,qt 32 31 (qe 2 4),qt 33 31 (qd 32),qt 34 31 (qe 3 4),qt 35 31 (qd 34),qt 36 31 (qb .eql 33 35),qo 37 (qr 31 36),qm 38 37,qt 39 38 (qe 2 5),qt 40 38 (qd 39),qt 41 38 (qe 3 5),qt 42 38 (qd 41),qt 43 38 (qb .eql 40 42),qo 44 (qr 38 43),qm 45 44,qt 46 45 (qe 2 7),qt 47 45 (qd 46),qt 48 45 (qe 3 7),qt 49 45 (qd 48),qt 50 45 (qb .eql 47 49),qo 51 (qr 45 50),qm 52 51,qt 53 52 (qe 2 6),qt 54 52 (qd 53),qt 55 52 (qe 3 6),qt 56 52 (qd 55),qt 57 52 (.call true 99 [qu 54,qu 56]),qo 58 (qr 52 57),qm 4 58] .ret))
def rs98 : List RV := [.tmp 4]
set_option maxRecDepth 100000 in
theorem comp98 : compFn Tryz.prog Tryz.f98 = some (vc98, rs98) := by kernel_rfl
def vc99 : VCode := (qz [qo 4 (qy false)] (.seq (qz [qm 6 0,qn 7 6,qm 8 1,qn 9 8,qo 10 (qb .neq 7 9)] (.cond (qu 10) (qz [qo 4 (qy false)] .ret) .skip)) (.seq (qz [qm 11 0,qn 12 11,qo 13 (qw 0)] (.block 0 (.loop (qz [qo 14 (qb .lss 13 12)] (.seq (.cond (qu 14) .skip (.exit 0)) (.seq (.block 1 (qz [qm 15 13,qm 5 15] (qz [qm 16 0,qm 17 5,qi 18 16 17 1,ql 19 18,qm 20 1,qm 21 5,qi 22 20 21 1,ql 23 22,qo 24 (qb .neq 19 23)] (.cond (qu 24) (qz [qo 4 (qy false)] .ret) .skip)))) (.ops [qo 25 (qc .add 13 1),qm 13 25]))))))) (qz [qo 4 (qy true)] .ret))))
def rs99 : List RV := [.tmp 4]
set_option maxRecDepth 100000 in
theorem comp99 : compFn Tryz.prog Tryz.f99 = some (vc99, rs99) := by kernel_rfl
def vc101 : VCode := (qz [qo 2 (qy false)] (qz [qm 3 0,qm 4 0,qo 5 (qb .neq 3 4),qm 2 5] .ret))
def rs101 : List RV := [.tmp 2]
set_option maxRecDepth 100000 in
theorem comp101 : compFn Tryz.prog Tryz.f101 = some (vc101, rs101) := by kernel_rfl
def vc102 : VCode := (qz [qo 2 (qy false)] (.seq (qz [qm 12 0,qn 13 12,qo 14 (qc .lss 13 1),qm 15 14,qg 16 15 (qv 0),qg 17 15 (qj 16),qg 18 15 (qc .gtr 17 64),qo 19 (qp 15 18)] (.cond (qu 19) (qz [qo 2 (qy false)] .ret) .skip)) (qz [qo 20 (.call true 104 []),qo 3 (.alloc [.int .i64 0,.bool false,.int .i64 0,.int .i64 0,.int .i64 0,.bool false,.int .i64 0,.int .i64 0,.int .i64 0,.bool false,.int .i64 0,.int .i64 0,.int .i64 0,.bool false,.int .i64 0,.int .i64 0,.int .i64 0,.bool false,.int .i64 0,.int .i64 0,.int .i64 0,.bool false,.int .i64 0,.int .i64 0,.int .i64 0,.bool false,.int .i64 0,.int .i64 0,.int .i64 0,.bool false,.int .i64 0,.int .i64 0,.int .i64 0,.bool false,.int .i64 0,.int .i64 0,.int .i64 0,.bool false,.int .i64 0,.int .i64 0,.int .i64 0,.bool false,.int .i64 0,.int .i64 0,.int .i64 0,.bool false,.int .i64 0,.int .i64 0,.int .i64 0,.bool false,.int .i64 0,.int .i64 0,.int .i64 0,.bool false,.int .i64 0,.int .i64 0,.int .i64 0,.bool false,.int .i64 0,.int .i64 0,.int .i64 0,.bool false,.int .i64 0,.int .i64 0,.int .i64 0,.bool false,.int .i64 0,.int .i64 0,.int .i64 0,.bool false,.int .i64 0,.int .i64 0,.int .i64 0,.bool false,.int .i64 0,.int .i64 0]),qs (.store 76 (qu 3) (qu 20))] (qz [qm 21 0,qn 22 21,qo 23 (.mkslice 3 1 8 [.int .i64 0] (qu 22) (qu 22)),qm 4 23] (.seq (qz [qm 24 0,qn 25 24,qo 26 (qw 0)] (.block 0 (.loop (qz [qo 27 (qb .lss 26 25)] (.seq (.cond (qu 27) .skip (.exit 0)) (.seq (.block 1 (qz [qm 28 26,qi 29 24 26 8,qo 30 (.load (some 8) (qu 29)),qo 6 (.alloc [.int .i64 0,.int .i64 0,.int .i64 0,.int .i64 0,.int .i64 0,.int .i64 0,.slice none 0 0,(.string (⟨#[]⟩ : ByteArray))]),qm 5 28,qs (.store 8 (qu 6) (qu 30))] (.seq (qz [qf 31 6 0,ql 32 31,qo 33 (.call true 148 [qu 32,qk 1,qk 18]),qo 34 (.un .not (qu 33)),qm 35 34,qg 36 35 (qe 6 6),qg 37 35 (qd 36),qg 38 35 (qj 37),qg 39 35 (qc .gtr 38 64),qo 40 (qp 35 39)] (.cond (qu 40) (qz [qo 2 (qy false)] .ret) .skip)) (qz [qf 41 6 0,ql 42 41,qo 43 (.iaddrA (qu 3) (qu 42) 19 4),qo 44 (.load (some 4) (qu 43)),qo 7 (.alloc [.int .i64 0,.bool false,.int .i64 0,.int .i64 0]),qs (.store 4 (qu 7) (qu 44))] (.seq (qz [qf 45 6 2,ql 46 45,qf 47 6 3,ql 48 47,qo 49 (.bslice 3 1 2 [.int .i64 0,.int .i64 0] [(0,(1,qu 46)),(1,(1,qu 48))]),qn 50 49,qo 51 (qw 0)] (.block 2 (.loop (qz [qo 52 (qb .lss 51 50)] (.seq (.cond (qu 52) .skip (.exit 2)) (.seq (.block 3 (qz [qm 53 51,qi 54 49 51 1,ql 55 54,qm 8 53,qm 9 55] (.block 4 (qz [qm 57 8,qf 58 7 0,ql 59 58,qo 60 (qb .lss 57 59),qm 56 60] (.cond (qu 56) (.seq (qz [qm 61 9,qm 62 5,qo 63 (qc .sub 62 1),qo 64 (.call true 148 [qu 61,qk 0,qu 63]),qo 65 (.un .not (qu 64))] (.cond (qu 65) (qz [qo 2 (qy false)] .ret) .skip)) (.ops [qm 66 4,qm 67 9,qi 68 66 67 1,ql 69 68,qo 70 (qc .add 69 1),qi 71 66 67 1,qs (.store 1 (qu 71) (qu 70))])) (qz [qm 73 9,qo 74 (qc .neq 73 0),qm 75 74,qt 76 75 (qv 8),qt 77 75 (qc .eql 76 0),qt 78 75 (qv 77),qt 79 78 (qe 6 0),qt 80 78 (qd 79),qt 81 78 (qc .eql 80 7),qt 82 75 (qr 78 81),qt 83 75 (.un .not (qu 82)),qo 84 (qr 75 83),qm 72 84] (.cond (qu 72) (qz [qo 2 (qy false)] .ret) .skip))))))) (.ops [qo 85 (qc .add 51 1),qm 51 85]))))))) (qz [qf 86 6 1,ql 87 86,qo 88 (qc .eql 87 0),qf 89 6 7,ql 90 89,qo 91 (.bin .eql (qu 90) (.const (.string (⟨#[]⟩ : ByteArray)))),qm 10 88,qm 11 91] (.seq (qz [qf 92 7 1,ql 93 92] (.cond (qu 93) (.ops [qf 94 6 1,ql 95 94,qo 96 (.call true 148 [qu 95,qk 0,qk 2]),qm 10 96]) .skip)) (.seq (qz [qf 97 6 0,ql 98 97,qo 99 (qc .eql 98 18)] (.cond (qu 99) (.ops [qf 100 6 7,ql 101 100,qo 102 (.call true 149 [qu 101]),qm 11 102]) .skip)) (qz [qm 103 10,qo 104 (.un .not (qu 103)),qm 105 104,qg 106 105 (qv 11),qg 107 105 (.un .not (qu 106)),qo 108 (qp 105 107),qm 109 108,qg 110 109 (qe 6 6),qg 111 109 (qd 110),qg 112 109 (qe 7 2),qg 113 109 (.load (some 2) (qu 112)),qg 114 109 (.call true 150 [qu 111,qu 113]),qg 115 109 (.un .not (qu 114)),qo 116 (qp 109 115),qm 117 116,qg 118 117 (.load (some 8) (qu 6)),qg 119 117 (.call true 151 [qu 118]),qg 120 117 (.un .not (qu 119)),qo 121 (qp 117 120)] (.cond (qu 121) (qz [qo 2 (qy false)] .ret) .skip)))))))))) (.ops [qo 122 (qc .add 26 1),qm 26 122]))))))) (qz [qm 123 4,qm 124 0,qn 125 124,qo 126 (qc .sub 125 1),qo 127 (.slice 1 (qu 123) none (some (qu 126))),qo 128 (.call true 152 [qu 127,.func 153]),qo 129 (.un .not (qu 128)),qm 2 129] .ret))))))
def rs102 : List RV := [.tmp 2]
set_option maxRecDepth 100000 in
theorem comp102 : compFn Tryz.prog Tryz.f102 = some (vc102, rs102) := by kernel_rfl
def vc103 : VCode := (qz [ql 6 1,qm 7 0,qs (.mput none (qu 6) (qu 7) (.const (.bool true)))] (qz [ql 9 2,qm 10 0,qi 11 9 10 8,qf 12 11 0,ql 13 12,qo 8 (.call false 104 []),qo 14 (.index 19 4 (some 4) (qu 8) (qu 13)),qo 15 (.field 0 none (qu 14)),qm 5 15] (.seq (qz [qm 16 5,qo 17 (qc .gtr 16 0)] (.cond (qu 17) (.ops [ql 18 3,ql 19 2,qm 20 0,qi 21 19 20 8,qf 22 21 2,ql 23 22,qo 24 (.callv true (qu 18) [qu 23])]) .skip)) (qz [qm 25 5,qo 26 (qc .gtr 25 1)] (.cond (qu 26) (.ops [ql 27 3,ql 28 2,qm 29 0,qi 30 28 29 8,qf 31 30 3,ql 32 31,qo 33 (.callv true (qu 27) [qu 32])]) .skip)))))
def rs103 : List RV := []
set_option maxRecDepth 100000 in
theorem comp103 : compFn Tryz.prog Tryz.f103 = some (vc103, rs103) := by kernel_rfl
def vc104 : VCode := (qz [qo 0 (.alloc [.int .i64 0,.bool false,.int .i64 0,.int .i64 0,.int .i64 0,.bool false,.int .i64 0,.int .i64 0,.int .i64 0,.bool false,.int .i64 0,.int .i64 0,.int .i64 0,.bool false,.int .i64 0,.int .i64 0,.int .i64 0,.bool false,.int .i64 0,.int .i64 0,.int .i64 0,.bool false,.int .i64 0,.int .i64 0,.int .i64 0,.bool false,.int .i64 0,.int .i64 0,.int .i64 0,.bool false,.int .i64 0,.int .i64 0,.int .i64 0,.bool false,.int .i64 0,.int .i64 0,.int .i64 0,.bool false,.int .i64 0,.int .i64 0,.int .i64 0,.bool false,.int .i64 0,.int .i64 0,.int .i64 0,.bool false,.int .i64 0,.int .i64 0,.int .i64 0,.bool false,.int .i64 0,.int .i64 0,.int .i64 0,.bool false,.int .i64 0,.int .i64 0,.int .i64 0,.bool false,.int .i64 0,.int .i64 0,.int .i64 0,.bool false,.int .i64 0,.int .i64 0,.int .i64 0,.bool false,.int .i64 0,.int .i64 0,.int .i64 0,.bool false,.int .i64 0,.int .i64 0,.int .i64 0,.bool false,.int .i64 0,.int .i64 0])] (qz [qo 1 (.build [.int .i64 0,.bool false,.int .i64 0,.int .i64 0] []),qo 2 (.build [.int .i64 0,.bool false,.int .i64 0,.int .i64 0] [(1,(1,.const (.bool true)))]),qo 3 (.build [.int .i64 0,.int .i64 0] [(0,(1,qk 1)),(1,(1,qk 16))]),qo 4 (.build [.int .i64 0,.bool false,.int .i64 0,.int .i64 0] [(1,(1,.const (.bool true))),(2,(2,qu 3))]),qo 5 (.build [.int .i64 0,.int .i64 0] [(0,(1,qk (-40))),(1,(1,qk 40))]),qo 6 (.build [.int .i64 0,.bool false,.int .i64 0,.int .i64 0] [(1,(1,.const (.bool true))),(2,(2,qu 5))]),qo 7 (.build [.int .i64 0,.int .i64 0] [(0,(1,qk 0)),(1,(1,qk 6))]),qo 8 (.build [.int .i64 0,.bool false,.int .i64 0,.int .i64 0] [(2,(2,qu 7))]),qo 9 (.build [.int .i64 0,.int .i64 0] [(0,(1,qk 1)),(1,(1,qk 54))]),qo 10 (.build [.int .i64 0,.bool false,.int .i64 0,.int .i64 0] [(1,(1,.const (.bool true))),(2,(2,qu 9))]),qo 11 (.build [.int .i64 0,.bool false,.int .i64 0,.int .i64 0] [(1,(1,.const (.bool true)))]),qo 12 (.build [.int .i64 0,.bool false,.int .i64 0,.int .i64 0] [(0,(1,qk 2))]),qo 13 (.build [.int .i64 0,.bool false,.int .i64 0,.int .i64 0] [(0,(1,qk 2))]),qo 14 (.build [.int .i64 0,.bool false,.int .i64 0,.int .i64 0] [(0,(1,qk 2))]),qo 15 (.build [.int .i64 0,.bool false,.int .i64 0,.int .i64 0] [(0,(1,qk 1))]),qo 16 (.build [.int .i64 0,.bool false,.int .i64 0,.int .i64 0] [(0,(1,qk 1))]),qo 17 (.build [.int .i64 0,.bool false,.int .i64 0,.int .i64 0] [(0,(1,qk 1))]),qo 18 (.build [.int .i64 0,.int .i64 0] [(0,(1,qk 0)),(1,(1,qk 1099511627776))]),qo 19 (.build [.int .i64 0,.bool false,.int .i64 0,.int .i64 0] [(0,(1,qk 1)),(2,(2,qu 18))]),qo 20 (.build [.int .i64 0,.int .i64 0] [(0,(1,qk 0)),(1,(1,qk 1099511627776))]),qo 21 (.build [.int .i64 0,.bool false,.int .i64 0,.int .i64 0] [(0,(1,qk 1)),(2,(2,qu 20))]),qo 22 (.build [.int .i64 0,.int .i64 0] [(0,(1,qk (-400))),(1,(1,qk 400))]),qo 23 (.build [.int .i64 0,.bool false,.int .i64 0,.int .i64 0] [(0,(1,qk 1)),(1,(1,.const (.bool true))),(2,(2,qu 22))]),qo 24 (.build [.int .i64 0,.bool false,.int .i64 0,.int .i64 0] [(0,(1,qk 2))]),qo 25 (.build [.int .i64 0,.bool false,.int .i64 0,.int .i64 0] []),qo 26 (.build [.int .i64 0,.bool false,.int .i64 0,.int .i64 0,.int .i64 0,.bool false,.int .i64 0,.int .i64 0,.int .i64 0,.bool false,.int .i64 0,.int .i64 0,.int .i64 0,.bool false,.int .i64 0,.int .i64 0,.int .i64 0,.bool false,.int .i64 0,.int .i64 0,.int .i64 0,.bool false,.int .i64 0,.int .i64 0,.int .i64 0,.bool false,.int .i64 0,.int .i64 0,.int .i64 0,.bool false,.int .i64 0,.int .i64 0,.int .i64 0,.bool false,.int .i64 0,.int .i64 0,.int .i64 0,.bool false,.int .i64 0,.int .i64 0,.int .i64 0,.bool false,.int .i64 0,.int .i64 0,.int .i64 0,.bool false,.int .i64 0,.int .i64 0,.int .i64 0,.bool false,.int .i64 0,.int .i64 0,.int .i64 0,.bool false,.int .i64 0,.int .i64 0,.int .i64 0,.bool false,.int .i64 0,.int .i64 0,.int .i64 0,.bool false,.int .i64 0,.int .i64 0,.int .i64 0,.bool false,.int .i64 0,.int .i64 0,.int .i64 0,.bool false,.int .i64 0,.int .i64 0,.int .i64 0,.bool false,.int .i64 0,.int .i64 0] [(4,(4,qu 1)),(8,(4,qu 2)),(12,(4,qu 4)),(16,(4,qu 6)),(20,(4,qu 8)),(24,(4,qu 10)),(28,(4,qu 11)),(32,(4,qu 12)),(36,(4,qu 13)),(40,(4,qu 14)),(44,(4,qu 15)),(48,(4,qu 16)),(52,(4,qu 17)),(56,(4,qu 19)),(60,(4,qu 21)),(64,(4,qu 23)),(68,(4,qu 24)),(72,(4,qu 25))]),qs (.store 76 (qu 0) (qu 26))] .ret))
def rs104 : List RV := [.cell 0 (some 76)]
set_option maxRecDepth 100000 in
theorem comp104 : compFn Tryz.prog Tryz.f104 = some (vc104, rs104) := by kernel_rfl
def vc105 : VCode := (qz [qo 4 (.box (qu 1)),qo 6 (.mov (.const (.slice none 0 0)))] (qz [qf 7 4 6,ql 8 7,qo 9 (.call true 94 [qu 8]),qf 10 4 6,qs (.store 1 (qu 10) (qu 9))] (.seq (qz [qf 12 4 0,ql 13 12,qo 11 (.call false 104 []),qo 14 (.index 19 4 (some 4) (qu 11) (qu 13)),qo 15 (.field 0 none (qu 14))] (.block 0 (qz [qo 17 (qc .eql 15 2),qm 16 17] (.cond (qu 16) (qz [qm 18 2,qf 19 4 3,ql 20 19,qi 21 18 20 1,ql 22 21,qf 23 4 3,qs (.store 1 (qu 23) (qu 22))] (.ops [qm 24 2,qf 25 4 2,ql 26 25,qi 27 24 26 1,ql 28 27,qf 29 4 2,qs (.store 1 (qu 29) (qu 28))])) (qz [qo 31 (qc .eql 15 1),qm 30 31] (.cond (qu 30) (.ops [qm 32 2,qf 33 4 2,ql 34 33,qi 35 32 34 1,ql 36 35,qf 37 4 2,qs (.store 1 (qu 37) (qu 36))]) .skip)))))) (qz [qm 38 0,qo 39 (.load (some 8) (qu 4)),qo 40 (.bslice 87 8 1 [.int .i64 0,.int .i64 0,.int .i64 0,.int .i64 0,.int .i64 0,.int .i64 0,.slice none 0 0,(.string (⟨#[]⟩ : ByteArray))] [(0,(8,qu 39))]),qo 41 (.append 87 8 88 (qu 38) (qu 40)),qm 6 41] .ret))))
def rs105 : List RV := [.tmp 6]
set_option maxRecDepth 100000 in
theorem comp105 : compFn Tryz.prog Tryz.f105 = some (vc105, rs105) := by kernel_rfl
def vc106 : VCode := (qz [qo 1 (.box (qu 0)),qo 2 (qy false)] (.seq (qz [qf 8 1 1,ql 9 8,qn 10 9,qm 3 10] (.block 0 (.seq (qz [qf 12 1 0,ql 13 12,qo 14 (qc .lss 13 0),qm 15 14,qg 16 15 (qe 1 0),qg 17 15 (qd 16),qg 18 15 (qc .gtr 17 1048576),qo 19 (qp 15 18),qm 11 19] (.cond (qu 11) .skip (qz [qm 20 3,qo 21 (qc .lss 20 1),qm 22 21,qg 23 22 (qv 3),qg 24 22 (qc .gtr 23 16),qo 25 (qp 22 24),qm 11 25] (.cond (qu 11) .skip (.ops [qf 26 1 2,ql 27 26,qo 28 (qc .lss 27 (-1)),qm 29 28,qg 30 29 (qe 1 2),qg 31 29 (qd 30),qg 32 29 (qv 3),qg 33 29 (qb .geq 31 32),qo 34 (qp 29 33),qm 11 34]))))) (.cond (qu 11) (qz [qo 2 (qy false)] .ret) (.seq (qz [qf 36 1 3,ql 37 36,qn 38 37,qo 39 (qc .gtr 38 16),qm 35 39] (.cond (qu 35) .skip (.ops [qf 40 1 2,ql 41 40,qo 42 (qc .eql 41 (-1)),qm 43 42,qt 44 43 (qe 1 3),qt 45 43 (qd 44),qt 46 43 (qj 45),qt 47 43 (qc .gtr 46 0),qo 48 (qr 43 47),qm 35 48]))) (.cond (qu 35) (qz [qo 2 (qy false)] .ret) .skip)))))) (.seq (qz [qf 49 1 1,ql 50 49,qn 51 50,qo 52 (qw 0)] (.block 1 (.loop (qz [qo 53 (qb .lss 52 51)] (.seq (.cond (qu 53) .skip (.exit 1)) (.seq (.block 2 (qz [qi 54 50 52 1,ql 55 54,qm 5 55] (qz [qm 56 5,qo 57 (qc .lss 56 1),qm 58 57,qg 59 58 (qv 5),qg 60 58 (qc .gtr 59 40),qo 61 (qp 58 60)] (.cond (qu 61) (qz [qo 2 (qy false)] .ret) .skip)))) (.ops [qo 62 (qc .add 52 1),qm 52 62]))))))) (qz [qf 64 1 3,ql 65 64,qo 66 (.call true 154 [qu 65]),qm 63 66,qx 67 63 0,qx 68 63 1,qm 6 67,qm 7 68] (qz [qm 69 7,qm 2 69] .ret)))))
def rs106 : List RV := [.tmp 2]
set_option maxRecDepth 100000 in
theorem comp106 : compFn Tryz.prog Tryz.f106 = some (vc106, rs106) := by kernel_rfl
def vc107 : VCode := (qz [qo 4 (qy false)] (qz [qm 5 1,qo 6 (.un .neg (qu 5)),qm 7 0,qo 8 (qb .leq 6 7),qm 9 8,qt 10 9 (qv 0),qt 11 9 (qv 1),qt 12 9 (qb .leq 10 11),qo 13 (qr 9 12),qm 4 13] .ret))
def rs107 : List RV := [.tmp 4]
set_option maxRecDepth 100000 in
theorem comp107 : compFn Tryz.prog Tryz.f107 = some (vc107, rs107) := by kernel_rfl
def vc108 : VCode := (qz [qo 1 (.box (qu 0)),qo 2 (.mov (.const (.pointer none))),qo 3 (qy false)] (qz [qo 17 (.load (some 8) (qu 1)),qo 18 (.build [.int .i64 0,.slice none 0 0,.int .i64 0,.slice none 0 0,.int .i64 0,.slice none 0 0,.int .i64 0,.slice none 0 0,.slice none 0 0,.int .i64 0] [(0,(8,qu 17)),(9,(1,qk 1))]),qo 19 (.box (qu 18)),qm 4 19] (.seq (qz [qf 20 1 7,ql 21 20,qn 22 21,qo 23 (qc .eql 22 0)] (.cond (qu 23) (qz [qm 24 4,qm 2 24,qo 3 (qy true)] .ret) .skip)) (qz [qf 26 1 0,qo 27 (.load (some 4) (qu 26)),qo 28 (.call true 155 [qu 27]),qm 25 28,qx 29 25 0,qx 30 25 1,qx 31 25 2,qm 5 29,qm 6 30,qm 7 31] (qz [qm 32 4,qm 33 6,qo 34 (.nilchk (qu 32)),qf 35 34 9,qs (.store 1 (qu 35) (qu 33))] (.seq (qz [qm 36 6,qo 37 (qc .rem 36 7),qo 38 (qc .neq 37 0)] (.cond (qu 38) (.ops [qm 39 4,qo 40 (.nilchk (qu 39)),qf 41 40 9,ql 42 41,qo 43 (qc .mul 42 7),qo 44 (.nilchk (qu 39)),qf 45 44 9,qs (.store 1 (qu 45) (qu 43))]) .skip)) (qz [qf 46 1 0,qf 47 46 0,ql 48 47,qm 8 48] (.seq (qz [qo 9 (qw 1)] (.block 0 (.loop (.seq (qz [qm 49 8,qf 50 1 0,qf 51 50 0,ql 52 51,qm 53 4,qo 54 (.nilchk (qu 53)),qf 55 54 9,ql 56 55,qo 57 (qb .add 52 56),qo 58 (qb .lss 49 57)] (.cond (qu 58) .skip (.exit 0))) (.seq (.block 1 (.seq (qz [qf 61 1 7,ql 62 61,qn 63 62,qo 64 (qw 0)] (.block 2 (.loop (qz [qo 65 (qb .lss 64 63)] (.seq (.cond (qu 65) .skip (.exit 2)) (.seq (.block 3 (qz [qm 66 64,qi 67 62 64 5,qo 68 (.load (some 5) (qu 67)),qo 11 (.alloc [.int .i64 0,.int .i64 0,.int .i64 0,.int .i64 0,.int .i64 0]),qm 10 66,qs (.store 5 (qu 11) (qu 68))] (qz [qf 70 1 0,qo 71 (.load (some 4) (qu 70)),qm 72 8,qm 73 9,qo 74 (.load (some 5) (qu 11)),qo 75 (.call true 156 [qu 71,qu 72,qu 73,qu 74]),qm 69 75,qx 76 69 0,qx 77 69 1,qm 12 76,qm 13 77] (qz [qm 78 13] (.cond (qu 78) (.ops [qm 79 4,qm 80 4,qo 81 (.nilchk (qu 80)),qf 82 81 8,ql 83 82,qm 84 12,qo 85 (qc .mul 84 1440),qf 86 11 3,ql 87 86,qo 88 (qb .add 85 87),qf 89 1 7,ql 90 89,qm 91 10,qo 92 (.bin .sub (qk 1) (qu 91)),qi 93 90 92 5,qf 94 93 4,ql 95 94,qo 96 (qb .sub 88 95),qf 97 11 4,ql 98 97,qo 99 (.build [.int .i64 0,.int .i64 0] [(0,(1,qu 96)),(1,(1,qu 98))]),qo 100 (.bslice 95 2 1 [.int .i64 0,.int .i64 0] [(0,(2,qu 99))]),qo 101 (.append 95 2 16 (qu 83) (qu 100)),qo 102 (.nilchk (qu 79)),qf 103 102 8,qs (.store 1 (qu 103) (qu 101))]) .skip))))) (.ops [qo 104 (qc .add 64 1),qm 64 104]))))))) (.ops [qm 105 8,qf 106 1 0,qo 107 (.load (some 4) (qu 106)),qm 108 9,qo 109 (.call true 157 [qu 107,qu 108]),qo 110 (qb .add 105 109),qm 8 110]))) (.ops [qm 59 9,qo 60 (qc .add 59 1),qm 9 60])))))) (qz [qm 111 4,qo 112 (.nilchk (qu 111)),qf 113 112 8,ql 114 113,qo 115 (.call true 158 [qu 114,.func 159])] (.seq (qz [qm 116 4,qo 117 (.nilchk (qu 116)),qf 118 117 8,ql 119 118,qn 120 119,qo 121 (qw 0)] (.block 4 (.loop (qz [qo 122 (qb .lss 121 120)] (.seq (.cond (qu 122) .skip (.exit 4)) (.seq (.block 5 (qz [qm 123 121,qi 124 119 121 2,qo 125 (.load (some 2) (qu 124)),qo 15 (.alloc [.int .i64 0,.int .i64 0]),qm 14 123,qs (.store 2 (qu 15) (qu 125))] (qz [qm 126 4,qo 127 (.nilchk (qu 126)),qf 128 127 8,ql 129 128,qo 130 (.iaddr (qu 129) (qk 0) 2),qf 131 130 0,ql 132 131,qm 133 4,qo 134 (.call false 160 [qu 133]),qo 135 (qb .add 132 134),qm 16 135] (.seq (qz [qm 136 14,qo 137 (qc .add 136 1),qm 138 4,qo 139 (.nilchk (qu 138)),qf 140 139 8,ql 141 140,qn 142 141,qo 143 (qb .lss 137 142)] (.cond (qu 143) (.ops [qm 144 4,qo 145 (.nilchk (qu 144)),qf 146 145 8,ql 147 146,qm 148 14,qo 149 (qc .add 148 1),qi 150 147 149 2,qf 151 150 0,ql 152 151,qm 16 152]) .skip)) (qz [qm 153 16,qf 154 15 0,ql 155 154,qo 156 (qb .sub 153 155),qo 157 (qc .lss 156 2160)] (.cond (qu 157) (qz [qo 2 (.mov (.const (.pointer none))),qo 3 (qy false)] .ret) .skip)))))) (.ops [qo 158 (qc .add 121 1),qm 121 158]))))))) (qz [qm 159 4,qm 2 159,qo 3 (qy true)] .ret)))))))))))
def rs108 : List RV := [.tmp 2, .tmp 3]
set_option maxRecDepth 100000 in
theorem comp108 : compFn Tryz.prog Tryz.f108 = some (vc108, rs108) := by kernel_rfl
def vc109 : VCode := (qz [qo 2 (.box (qu 0)),qo 3 (.box (qu 1)),qo 4 (.mov (.const .nilFunc))] (qz [qo 5 (.mkfn 161 [qu 2,qu 3]),qm 4 5] .ret))
def rs109 : List RV := [.tmp 4]
set_option maxRecDepth 100000 in
theorem comp109 : compFn Tryz.prog Tryz.f109 = some (vc109, rs109) := by kernel_rfl
def vc110 : VCode := (qz [qo 4 (.mov (.const (.slice none 0 0))),qo 5 (qw 0),qo 6 (qw 0)] (qz [qm 13 1,qo 14 (qc .add 13 1080),qm 7 14] (.seq (.block 0 (.loop (.block 1 (qz [qm 16 0,qm 17 7,qo 18 (.call true 163 [qu 16,qu 17]),qm 15 18,qx 19 15 0,qx 20 15 1,qo 8 (.alloc [.int .i64 0,.int .i64 0]),qs (.store 2 (qu 8) (qu 19)),qm 9 20] (qz [qm 21 0,qm 22 7,qo 23 (.call true 164 [qu 21,qu 22]),qm 10 23] (.seq (qz [qm 24 1,qm 25 10,qo 26 (qb .sub 24 25),qm 11 26] (qz [qm 27 11,qm 28 7,qo 29 (qb .leq 27 28),qm 30 29,qt 31 30 (qv 9),qt 32 30 (.un .not (qu 31)),qt 33 30 (qv 32),qg 34 33 (qv 11),qg 35 33 (qe 8 0),qg 36 33 (qd 35),qg 37 33 (qb .geq 34 36),qt 38 30 (qp 33 37),qo 39 (qr 30 38)] (.cond (qu 39) (.ops [qm 40 4,qm 41 11,qo 42 (.bslice 3 1 1 [.int .i64 0] [(0,(1,qu 41))]),qo 43 (.append 3 1 8 (qu 40) (qu 42)),qm 4 43]) .skip))) (.seq (qz [qm 44 9,qo 45 (.un .not (qu 44)),qm 46 45,qg 47 46 (qe 8 0),qg 48 46 (qd 47),qg 49 46 (qv 1),qg 50 46 (qc .sub 49 1080),qg 51 46 (qb .lss 48 50),qo 52 (qp 46 51)] (.cond (qu 52) (.exit 0) .skip)) (.seq (qz [qm 53 0,qf 54 8 0,ql 55 54,qo 56 (qc .sub 55 1),qo 57 (.call true 164 [qu 53,qu 56]),qm 12 57] (qz [qf 58 8 0,ql 59 58,qm 60 12,qo 61 (qb .add 59 60),qm 62 1,qo 63 (qb .leq 61 62),qm 64 63,qt 65 64 (qv 1),qt 66 64 (qe 8 0),qt 67 64 (qd 66),qt 68 64 (qe 8 1),qt 69 64 (qd 68),qt 70 64 (qb .add 67 69),qt 71 64 (qb .lss 65 70),qo 72 (qr 64 71)] (.cond (qu 72) (qz [qf 73 8 0,ql 74 73,qm 75 12,qo 4 (.mov (.const (.slice none 0 0))),qm 5 74,qm 6 75] .ret) .skip))) (.ops [qf 76 8 0,ql 77 76,qo 78 (qc .sub 77 1),qm 7 78]))))))))) (qz [qm 79 4,qo 80 (.call true 61 [qu 79])] (qz [qm 81 4,qm 4 81,qo 5 (qw 0),qo 6 (qw 0)] .ret)))))
def rs110 : List RV := [.tmp 4, .tmp 5, .tmp 6]
set_option maxRecDepth 100000 in
theorem comp110 : compFn Tryz.prog Tryz.f110 = some (vc110, rs110) := by kernel_rfl
def vc111 : VCode := (qz [qo 0 (.alloc [.nilFunc,.nilFunc,.nilFunc])] (qz [qo 1 (.build [.nilFunc,.nilFunc,.nilFunc] [(0,(1,.func 165)),(1,(1,.func 166)),(2,(1,.func 167))]),qs (.store 3 (qu 0) (qu 1))] .ret))
def rs111 : List RV := [.cell 0 (some 3)]
set_option maxRecDepth 100000 in
theorem comp111 : compFn Tryz.prog Tryz.f111 = some (vc111, rs111) := by kernel_rfl
def vc118 : VCode := (qz [qo 3 (.box (qu 0)),qo 6 (qw 0)] (.seq (qz [qo 7 (.load (some 4) (qu 3)),qo 8 (.call true 50 [qu 7]),qo 9 (.un .not (qu 8)),qm 10 9,qg 11 10 (qv 2),qg 12 10 (qc .lss 11 1),qo 13 (qp 10 12),qm 14 13,qg 15 14 (qv 2),qg 16 14 (qe 3 1),qg 17 14 (qd 16),qg 18 14 (qj 17),qg 19 14 (qb .gtr 15 18),qo 20 (qp 14 19)] (.cond (qu 20) (qz [qo 6 (qw 0)] .ret) .skip)) (.seq (qz [qm 21 2,qo 22 (qc .sub 21 1),qf 23 3 2,ql 24 23,qo 25 (qb .eql 22 24),qm 26 25,qt 27 26 (.load (some 4) (qu 3)),qt 28 26 (qv 1),qt 29 26 (.call true 119 [qu 27,qu 28]),qo 30 (qr 26 29)] (.cond (qu 30) (qz [qf 31 3 1,ql 32 31,qm 33 2,qo 34 (qc .sub 33 1),qi 35 32 34 1,ql 36 35,qo 37 (qc .add 36 1),qm 6 37] .ret) .skip)) (qz [qf 38 3 1,ql 39 38,qm 40 2,qo 41 (qc .sub 40 1),qi 42 39 41 1,ql 43 42,qm 6 43] .ret))))
def rs118 : List RV := [.tmp 6]
set_option maxRecDepth 100000 in
theorem comp118 : compFn Tryz.prog Tryz.f118 = some (vc118, rs118) := by kernel_rfl
def vc119 : VCode := (qz [qo 2 (.box (qu 0)),qo 4 (qy false)] (.seq (qz [qo 7 (.load (some 4) (qu 2)),qo 8 (.call true 50 [qu 7]),qo 9 (.un .not (qu 8))] (.cond (qu 9) (qz [qo 4 (qy false)] .ret) .skip)) (qz [qo 5 (qy false)] (.seq (qz [qo 6 (qw 0)] (.block 0 (.loop (.seq (qz [qm 10 6,qf 11 2 3,ql 12 11,qn 13 12,qo 14 (qb .lss 10 13)] (.cond (qu 14) .skip (.exit 0))) (.seq (.block 1 (qz [qm 17 1,qf 18 2 3,ql 19 18,qm 20 6,qi 21 19 20 3,qf 22 21 0,ql 23 22,qf 25 2 3,ql 26 25,qm 27 6,qi 28 26 27 3,qf 29 28 1,ql 30 29,qo 24 (.call false 171 [qu 17,qu 23]),qo 31 (qb .eql 24 30)] (.cond (qu 31) (.ops [qf 32 2 3,ql 33 32,qm 34 6,qi 35 33 34 3,qf 36 35 2,ql 37 36,qm 5 37]) .skip))) (.ops [qm 15 6,qo 16 (qc .add 15 1),qm 6 16])))))) (qz [qm 38 5,qm 4 38] .ret)))))
def rs119 : List RV := [.tmp 4]
set_option maxRecDepth 100000 in
theorem comp119 : compFn Tryz.prog Tryz.f119 = some (vc119, rs119) := by kernel_rfl
def vc120 : VCode := (qz [qo 1 (.box (qu 0)),qo 2 (qw 0)] (qz [qo 3 (qw 0)] (.seq (qz [qo 4 (qw 0)] (.block 0 (.loop (.seq (qz [qm 5 4,qf 6 1 1,ql 7 6,qn 8 7,qo 9 (qb .lss 5 8)] (.cond (qu 9) .skip (.exit 0))) (.seq (.block 1 (.ops [qm 12 3,qf 13 1 1,ql 14 13,qm 15 4,qi 16 14 15 1,ql 17 16,qo 18 (qb .add 12 17),qm 3 18])) (.ops [qm 10 4,qo 11 (qc .add 10 1),qm 4 11])))))) (qz [qm 19 3,qm 2 19] .ret))))
def rs120 : List RV := [.tmp 2]
set_option maxRecDepth 100000 in
theorem comp120 : compFn Tryz.prog Tryz.f120 = some (vc120, rs120) := by kernel_rfl
def vc148 : VCode := (qz [qo 6 (qy false)] (qz [qm 7 1,qm 8 0,qo 9 (qb .leq 7 8),qm 10 9,qt 11 10 (qv 0),qt 12 10 (qv 2),qt 13 10 (qb .leq 11 12),qo 14 (qr 10 13),qm 6 14] .ret))
def rs148 : List RV := [.tmp 6]
set_option maxRecDepth 100000 in
theorem comp148 : compFn Tryz.prog Tryz.f148 = some (vc148, rs148) := by kernel_rfl
def vc150 : VCode := (qz [qo 3 (.box (qu 1)),qo 4 (qy false)] (.seq (qz [qo 7 (.load (some 2) (qu 3)),qo 8 (.build [.int .i64 0,.int .i64 0] []),qo 9 (.eqS false [0,0] (qu 7) (qu 8))] (.cond (qu 9) (qz [qm 10 0,qn 11 10,qo 12 (qc .eql 11 0),qm 4 12] .ret) .skip)) (.seq (qz [qm 13 0,qn 14 13,qo 15 (qw 0)] (.block 0 (.loop (qz [qo 16 (qb .lss 15 14)] (.seq (.cond (qu 16) .skip (.exit 0)) (.seq (.block 1 (qz [qm 17 15,qi 18 13 15 1,ql 19 18,qm 5 17,qm 6 19] (qz [qm 20 6,qf 21 3 0,ql 22 21,qf 23 3 1,ql 24 23,qo 25 (.call true 148 [qu 20,qu 22,qu 24]),qo 26 (.un .not (qu 25)),qm 27 26,qg 28 27 (qv 5),qg 29 27 (qc .gtr 28 0),qg 30 27 (qv 29),qt 31 30 (qv 6),qt 32 30 (qv 0),qt 33 30 (qv 5),qt 34 30 (qc .sub 33 1),qt 35 30 (qh 32 34 1),qt 36 30 (qd 35),qt 37 30 (qb .leq 31 36),qg 38 27 (qr 30 37),qo 39 (qp 27 38),qm 40 39,qg 41 40 (qv 6),qg 42 40 (qc .eql 41 0),qg 43 40 (qv 42),qt 44 43 (qe 3 0),qt 45 43 (qd 44),qt 46 43 (qc .lss 45 0),qg 47 40 (qr 43 46),qo 48 (qp 40 47)] (.cond (qu 48) (qz [qo 4 (qy false)] .ret) .skip)))) (.ops [qo 49 (qc .add 15 1),qm 15 49]))))))) (qz [qm 50 0,qn 51 50,qo 52 (qc .gtr 51 0),qm 4 52] .ret))))
def rs150 : List RV := [.tmp 4]
set_option maxRecDepth 100000 in
theorem comp150 : compFn Tryz.prog Tryz.f150 = some (vc150, rs150) := by kernel_rfl
def vc151 : VCode := (qz [qo 1 (.box (qu 0)),qo 2 (qy false)] (.seq (qz [qf 3 1 0,ql 4 3] (.block 0 (qz [qo 6 (qc .eql 4 1),qm 5 6] (.cond (qu 5) (qz [qf 7 1 4,ql 8 7,qo 9 (.call true 148 [qu 8,qk 1,qk 1099511627776]),qm 10 9,qt 11 10 (qe 1 5),qt 12 10 (qd 11),qt 13 10 (.call true 148 [qu 12,qk 0,qk 1099511627776]),qo 14 (qr 10 13),qm 2 14] .ret) (qz [qo 16 (qc .eql 4 2),qm 15 16] (.cond (qu 15) (qz [qf 17 1 4,ql 18 17,qo 19 (.call true 148 [qu 18,qk 1,qk 400]),qm 20 19,qt 21 20 (qe 1 5),qt 22 20 (qd 21),qt 23 20 (qe 1 4),qt 24 20 (qd 23),qt 25 20 (qc .sub 24 1),qt 26 20 (.call true 148 [qu 22,qk 0,qu 25]),qo 27 (qr 20 26),qm 2 27] .ret) (qz [qo 29 (qc .eql 4 7),qm 28 29] (.cond (qu 28) (qz [qf 30 1 4,ql 31 30,qo 32 (.call true 148 [qu 31,qk (-60),qk 60]),qm 33 32,qt 34 33 (qe 1 4),qt 35 33 (qd 34),qt 36 33 (qc .neq 35 0),qo 37 (qr 33 36),qm 38 37,qt 39 38 (qe 1 5),qt 40 38 (qd 39),qt 41 38 (.call true 148 [qu 40,qk 0,qk 6]),qo 42 (qr 38 41),qm 43 42,qt 44 43 (qe 1 2),qt 45 43 (qd 44),qt 46 43 (.call true 148 [qu 45,qk 0,qk 1]),qo 47 (qr 43 46),qm 2 47] .ret) (qz [qo 49 (qc .eql 4 11),qm 48 49] (.cond (qu 48) (qz [qf 50 1 4,ql 51 50,qo 52 (.call true 148 [qu 51,qk (-1099511627776),qk 1099511627776]),qm 53 52,qt 54 53 (qe 1 5),qt 55 53 (qd 54),qt 56 53 (qc .eql 55 0),qo 57 (qr 53 56),qm 2 57] .ret) (.seq (qz [qo 59 (qc .eql 4 12),qm 58 59] (.cond (qu 58) .skip (.ops [qo 60 (qc .eql 4 13),qm 58 60]))) (.cond (qu 58) (qz [qf 61 1 4,ql 62 61,qo 63 (.call true 148 [qu 62,qk 0,qk 1099511627776]),qm 64 63,qt 65 64 (qe 1 5),qt 66 64 (qd 65),qt 67 64 (qc .eql 66 0),qo 68 (qr 64 67),qm 2 68] .ret) (qz [qo 70 (qc .eql 4 16),qm 69 70] (.cond (qu 69) (qz [qf 71 1 4,ql 72 71,qo 73 (qc .eql 72 0),qm 74 73,qt 75 74 (qe 1 5),qt 76 74 (qd 75),qt 77 74 (.call true 148 [qu 76,qk 0,qk 1]),qo 78 (qr 74 77),qm 2 78] .ret) (qz [qo 80 (qc .eql 4 17),qm 79 80] (.cond (qu 79) (qz [qf 81 1 4,ql 82 81,qo 83 (.call true 148 [qu 82,qk 1,qk 400]),qm 84 83,qt 85 84 (qe 1 5),qt 86 84 (qd 85),qt 87 84 (qc .eql 86 0),qo 88 (qr 84 87),qm 2 88] .ret) .skip)))))))))))))))) (qz [qf 89 1 4,ql 90 89,qo 91 (qc .eql 90 0),qm 92 91,qt 93 92 (qe 1 5),qt 94 92 (qd 93),qt 95 92 (qc .eql 94 0),qo 96 (qr 92 95),qm 2 96] .ret)))
def rs151 : List RV := [.tmp 2]
set_option maxRecDepth 100000 in
theorem comp151 : compFn Tryz.prog Tryz.f151 = some (vc151, rs151) := by kernel_rfl
def vc152 : VCode := (qz [qo 4 (qy false)] (qz [qm 5 0,qm 6 1,qo 7 (.call true 183 [qu 5,qu 6]),qo 8 (qc .geq 7 0),qm 4 8] .ret))
def rs152 : List RV := [.tmp 4]
set_option maxRecDepth 100000 in
theorem comp152 : compFn Tryz.prog Tryz.f152 = some (vc152, rs152) := by kernel_rfl
def vc154 : VCode := (qz [qo 2 (qw 0),qo 3 (qy false)] (qz [qo 4 (qw 1)] (.seq (qz [qm 9 0,qn 10 9,qo 11 (qw 0)] (.block 0 (.loop (qz [qo 12 (qb .lss 11 10)] (.seq (.cond (qu 12) .skip (.exit 0)) (.seq (.block 1 (qz [qi 13 9 11 3,qo 14 (.load (some 3) (qu 13)),qo 6 (.alloc [.int .i64 0,.int .i64 0,.bool false]),qs (.store 3 (qu 6) (qu 14))] (.seq (qz [qf 15 6 0,ql 16 15,qo 17 (qc .lss 16 1),qm 18 17,qg 19 18 (qe 6 0),qg 20 18 (qd 19),qg 21 18 (qc .gtr 20 400),qo 22 (qp 18 21),qm 23 22,qg 24 23 (qe 6 1),qg 25 23 (qd 24),qg 26 23 (qc .lss 25 0),qo 27 (qp 23 26),qm 28 27,qg 29 28 (qe 6 1),qg 30 28 (qd 29),qg 31 28 (qe 6 0),qg 32 28 (qd 31),qg 33 28 (qb .geq 30 32),qo 34 (qp 28 33)] (.cond (qu 34) (qz [qo 2 (qw 0),qo 3 (qy false)] .ret) .skip)) (qz [qm 36 4,qf 37 6 0,ql 38 37,qo 39 (.call true 184 [qu 36,qu 38]),qm 35 39,qx 40 35 0,qx 41 35 1,qm 7 40,qm 8 41] (.seq (qz [qm 42 8,qo 43 (qc .neq 42 0),qm 44 43,qg 45 44 (qv 7),qg 46 44 (qc .gtr 45 400),qo 47 (qp 44 46)] (.cond (qu 47) (qz [qo 2 (qw 0),qo 3 (qy false)] .ret) .skip)) (.ops [qm 48 7,qm 4 48])))))) (.ops [qo 49 (qc .add 11 1),qm 11 49]))))))) (qz [qm 50 4,qm 2 50,qo 3 (qy true)] .ret))))
def rs154 : List RV := [.tmp 2, .tmp 3]
set_option maxRecDepth 100000 in
theorem comp154 : compFn Tryz.prog Tryz.f154 = some (vc154, rs154) := by kernel_rfl
def vc155 : VCode := (qz [qo 1 (.box (qu 0)),qo 2 (qw 0),qo 3 (qw 0),qo 4 (qw 0)] (qz [qo 10 (.load (some 4) (qu 1)),qo 11 (.call true 185 [qu 10]),qm 9 11,qx 12 9 0,qx 13 9 1,qo 5 (.alloc [.int .i64 0,.slice none 0 0,.int .i64 0,.slice none 0 0,.slice none 0 0]),qs (.store 5 (qu 5) (qu 12)),qm 6 13] (.seq (qz [qm 14 6,qo 15 (.un .not (qu 14))] (.cond (qu 15) (qz [qo 2 (qw 0),qo 3 (qw 0),qo 4 (qw 1)] .ret) .skip)) (qz [qo 17 (.load (some 5) (qu 5)),qo 18 (.call true 186 [qu 17]),qm 16 18,qx 19 16 0,qx 20 16 1,qm 7 19,qm 8 20] (qz [qm 21 7,qm 22 8,qm 2 21,qm 3 22,qo 4 (qw 0)] .ret)))))
def rs155 : List RV := [.tmp 2, .tmp 3, .tmp 4]
set_option maxRecDepth 100000 in
theorem comp155 : compFn Tryz.prog Tryz.f155 = some (vc155, rs155) := by kernel_rfl
def vc156 : VCode := (qz [qo 4 (.box (qu 0)),qo 7 (.box (qu 3)),qo 8 (qw 0),qo 9 (qy false)] (.seq (qz [qo 10 (qw 1)] (.block 0 (.loop (.seq (qz [qm 15 10,qf 16 7 0,ql 17 16,qo 18 (qb .lss 15 17)] (.cond (qu 18) .skip (.exit 0))) (.seq (.block 1 (.ops [qm 21 1,qo 22 (.load (some 4) (qu 4)),qm 23 2,qm 24 10,qo 25 (.call true 187 [qu 22,qu 23,qu 24]),qo 26 (qb .add 21 25),qm 1 26])) (.ops [qm 19 10,qo 20 (qc .add 19 1),qm 10 20])))))) (qz [qm 27 1,qo 28 (.load (some 4) (qu 4)),qm 29 2,qf 30 7 0,ql 31 30,qo 32 (.call true 187 [qu 28,qu 29,qu 31]),qo 33 (qb .add 27 32),qm 11 33] (qz [qm 34 1,qf 35 7 2,ql 36 35,qm 37 1,qo 38 (qb .sub 36 37),qo 39 (.call true 188 [qu 38]),qo 40 (qb .add 34 39),qm 12 40] (.seq (qz [qf 41 7 1,ql 42 41,qo 43 (qc .eql 42 5)] (.cond (qu 43) (qz [qm 44 11,qo 45 (qc .sub 44 1),qm 46 11,qo 47 (qc .sub 46 1),qf 48 7 2,ql 49 48,qo 50 (qb .sub 47 49),qo 51 (.call true 188 [qu 50]),qo 52 (qb .sub 45 51),qm 13 52] (qz [qm 53 13,qm 54 13,qm 55 1,qo 56 (qb .geq 54 55),qm 8 53,qm 9 56] .ret)) .skip)) (qz [qm 57 12,qf 58 7 1,ql 59 58,qo 60 (qc .sub 59 1),qo 61 (.bin .mul (qk 7) (qu 60)),qo 62 (qb .add 57 61),qm 14 62] (qz [qm 63 14,qm 64 14,qm 65 11,qo 66 (qb .lss 64 65),qm 8 63,qm 9 66] .ret)))))))
def rs156 : List RV := [.tmp 8, .tmp 9]
set_option maxRecDepth 100000 in
theorem comp156 : compFn Tryz.prog Tryz.f156 = some (vc156, rs156) := by kernel_rfl
def vc157 : VCode := (qz [qo 2 (.box (qu 0)),qo 4 (qw 0)] (.seq (qz [qo 5 (.load (some 4) (qu 2)),qo 6 (.call true 106 [qu 5]),qo 7 (.un .not (qu 6))] (.cond (qu 7) (qz [qo 4 (qw 0)] .ret) .skip)) (qz [qo 8 (.load (some 4) (qu 2)),qo 9 (.build [.int .i64 0,.slice none 0 0,.int .i64 0,.slice none 0 0,.slice none 0 0] [(0,(4,qu 8))]),qm 10 1,qo 11 (.call true 189 [qu 9,qu 10]),qm 4 11] .ret)))
def rs157 : List RV := [.tmp 4]
set_option maxRecDepth 100000 in
theorem comp157 : compFn Tryz.prog Tryz.f157 = some (vc157, rs157) := by kernel_rfl
def vc159 : VCode := (qz [qo 2 (.box (qu 0)),qo 3 (.box (qu 1)),qo 4 (qw 0)] (qz [qf 5 2 0,ql 6 5,qf 7 3 0,ql 8 7,qo 9 (.call true 69 [qu 6,qu 8]),qm 4 9] .ret))
def rs159 : List RV := [.tmp 4]
set_option maxRecDepth 100000 in
theorem comp159 : compFn Tryz.prog Tryz.f159 = some (vc159, rs159) := by kernel_rfl
def vc160 : VCode := (qz [qo 2 (qw 0)] (qz [qm 3 0,qo 4 (.nilchk (qu 3)),qf 5 4 9,ql 6 5,qo 7 (qc .mul 6 1440),qm 2 7] .ret))
def rs160 : List RV := [.tmp 2]
set_option maxRecDepth 100000 in
theorem comp160 : compFn Tryz.prog Tryz.f160 = some (vc160, rs160) := by kernel_rfl
def vc161 : VCode := (.seq (qz [ql 9 1,qo 10 (.nilchk (qu 9)),qf 11 10 0,qf 12 11 5,ql 13 12,qn 14 13,qo 15 (qw 0)] (.block 0 (.loop (qz [qo 16 (qb .lss 15 14)] (.seq (.cond (qu 16) .skip (.exit 0)) (.seq (.block 1 (qz [qi 17 13 15 2,qo 18 (.load (some 2) (qu 17)),qo 5 (.alloc [.int .i64 0,.int .i64 0]),qs (.store 2 (qu 5) (qu 18))] (qz [qf 19 5 0,ql 20 19,ql 21 2,qo 22 (qb .geq 20 21),qm 23 22,qt 24 23 (qv 0),qt 25 23 (.load (some 2) (qu 5)),qt 26 23 (.callv true (qu 24) [qu 25]),qt 27 23 (.un .not (qu 26)),qo 28 (qr 23 27)] (.cond (qu 28) .ret .skip)))) (.ops [qo 29 (qc .add 15 1),qm 15 29]))))))) (.seq (qz [ql 30 1,qo 31 (.nilchk (qu 30)),qf 32 31 8,ql 33 32,qn 34 33,qo 35 (qc .eql 34 0)] (.cond (qu 35) .ret .skip)) (qz [ql 36 2,ql 37 1,qo 38 (.nilchk (qu 37)),qf 39 38 0,qf 40 39 6,ql 41 40,qo 42 (.minmax true (qu 36) (qu 41)),qs (.store 1 (qu 2) (qu 42))] (qz [ql 43 1,ql 44 2,ql 46 1,qo 45 (.call false 162 [qu 43,qu 44]),qo 47 (.call false 160 [qu 46]),qo 48 (qb .mul 45 47),qm 6 48] (.block 2 (.loop (.seq (.block 3 (qz [ql 53 1,qo 54 (.nilchk (qu 53)),qf 55 54 8,ql 56 55,qn 57 56,qo 58 (qw 0)] (.block 4 (.loop (qz [qo 59 (qb .lss 58 57)] (.seq (.cond (qu 59) .skip (.exit 4)) (.seq (.block 5 (qz [qi 60 56 58 2,qo 61 (.load (some 2) (qu 60)),qo 8 (.alloc [.int .i64 0,.int .i64 0]),qs (.store 2 (qu 8) (qu 61))] (qz [qf 62 8 0,ql 63 62,qm 64 6,qo 65 (qb .add 63 64),qf 66 8 0,qs (.store 1 (qu 66) (qu 65))] (qz [qf 67 8 0,ql 68 67,ql 69 2,qo 70 (qb .geq 68 69),qm 71 70,qt 72 71 (qv 0),qt 73 71 (.load (some 2) (qu 8)),qt 74 71 (.callv true (qu 72) [qu 73]),qt 75 71 (.un .not (qu 74)),qo 76 (qr 71 75)] (.cond (qu 76) .ret .skip))))) (.ops [qo 77 (qc .add 58 1),qm 58 77])))))))) (.ops [qm 49 6,ql 50 1,qo 51 (.call true 160 [qu 50]),qo 52 (qb .add 49 51),qm 6 52]))))))))
def vc162 : VCode := (qz [qo 4 (qw 0)] (qz [qm 5 1,qm 6 0,qo 7 (.nilchk (qu 6)),qf 8 7 8,ql 9 8,qo 10 (.iaddr (qu 9) (qk 0) 2),qf 11 10 0,ql 12 11,qo 13 (qb .sub 5 12),qo 14 (.minmax true (qu 13) (qk 0)),qm 15 0,qo 16 (.call false 160 [qu 15]),qo 17 (qb .quo 14 16),qm 4 17] .ret))
def rs162 : List RV := [.tmp 4]
set_option maxRecDepth 100000 in
theorem comp162 : compFn Tryz.prog Tryz.f162 = some (vc162, rs162) := by kernel_rfl
def vc163 : VCode := (qz [qo 4 (.alloc [.int .i64 0,.int .i64 0]),qo 5 (qy false)] (qz [qo 6 (.mov (.func 191))] (.seq (qz [qm 13 0,qo 14 (.nilchk (qu 13)),qf 15 14 8,ql 16 15,qn 17 16,qo 18 (qc .gtr 17 0),qm 19 18,qt 20 19 (qv 1),qt 21 19 (qv 0),qt 22 19 (.nilchk (qu 21)),qt 23 19 (qe 22 8),qt 24 19 (qd 23),qt 25 19 (.iaddr (qu 24) (qk 0) 2),qt 26 19 (qe 25 0),qt 27 19 (qd 26),qt 28 19 (qb .geq 20 27),qo 29 (qr 19 28)] (.cond (qu 29) (qz [qm 30 0,qm 31 1,qo 32 (.call true 162 [qu 30,qu 31]),qm 33 0,qo 34 (.call true 160 [qu 33]),qo 35 (qb .mul 32 34),qm 7 35] (qz [qm 37 0,qo 38 (.nilchk (qu 37)),qf 39 38 8,ql 40 39,qm 41 1,qm 42 7,qo 43 (qb .sub 41 42),qm 44 6,qo 45 (.call true 192 [qu 40,qu 43,qu 44]),qm 36 45,qx 46 36 0,qx 47 36 1,qm 8 46,qm 9 47] (.seq (qz [qm 48 9,qo 49 (.un .not (qu 48))] (.cond (qu 49) (.ops [qm 50 8,qo 51 (qc .sub 50 1),qm 8 51]) .skip)) (qz [qm 52 0,qo 53 (.nilchk (qu 52)),qf 54 53 8,ql 55 54,qm 56 8,qi 57 55 56 2,qo 58 (.load (some 2) (qu 57)),qo 10 (.alloc [.int .i64 0,.int .i64 0]),qs (.store 2 (qu 10) (qu 58))] (qz [qf 59 10 0,ql 60 59,qm 61 7,qo 62 (qb .add 60 61),qm 63 0,qo 64 (.nilchk (qu 63)),qf 65 64 0,qf 66 65 6,ql 67 66,qo 68 (qb .geq 62 67)] (.cond (qu 68) (qz [qf 69 10 0,ql 70 69,qm 71 7,qo 72 (qb .add 70 71),qf 73 10 0,qs (.store 1 (qu 73) (qu 72))] (qz [qo 74 (.load (some 2) (qu 10)),qs (.store 2 (qu 4) (qu 74)),qo 5 (qy true)] .ret)) .skip)))))) .skip)) (qz [qm 76 0,qo 77 (.nilchk (qu 76)),qf 78 77 0,qf 79 78 5,ql 80 79,qm 81 1,qm 82 6,qo 83 (.call true 192 [qu 80,qu 81,qu 82]),qm 75 83,qx 84 75 0,qx 85 75 1,qm 11 84,qm 12 85] (.seq (qz [qm 86 12,qo 87 (.un .not (qu 86))] (.cond (qu 87) (.ops [qm 88 11,qo 89 (qc .sub 88 1),qm 11 89]) .skip)) (.seq (qz [qm 90 11,qo 91 (qc .lss 90 0)] (.cond (qu 91) (qz [qo 92 (.build [.int .i64 0,.int .i64 0] []),qs (.store 2 (qu 4) (qu 92)),qo 5 (qy false)] .ret) .skip)) (qz [qm 93 0,qo 94 (.nilchk (qu 93)),qf 95 94 0,qf 96 95 5,ql 97 96,qm 98 11,qi 99 97 98 2,qo 100 (.load (some 2) (qu 99)),qs (.store 2 (qu 4) (qu 100)),qo 5 (qy true)] .ret)))))))
def rs163 : List RV := [.cell 4 (some 2), .tmp 5]
set_option maxRecDepth 100000 in
theorem comp163 : compFn Tryz.prog Tryz.f163 = some (vc163, rs163) := by kernel_rfl
def vc164 : VCode := (qz [qo 4 (qw 0)] (.seq (qz [qm 8 0,qm 9 1,qo 10 (.call true 163 [qu 8,qu 9]),qm 7 10,qx 11 7 0,qx 12 7 1,qo 5 (.alloc [.int .i64 0,.int .i64 0]),qs (.store 2 (qu 5) (qu 11)),qm 6 12] (qz [qm 13 6] (.cond (qu 13) (qz [qf 14 5 1,ql 15 14,qm 4 15] .ret) .skip))) (qz [qm 16 0,qo 17 (.nilchk (qu 16)),qf 18 17 0,qf 19 18 4,ql 20 19,qm 4 20] .ret)))
def rs164 : List RV := [.tmp 4]
set_option maxRecDepth 100000 in
theorem comp164 : compFn Tryz.prog Tryz.f164 = some (vc164, rs164) := by kernel_rfl
def vc165 : VCode := (qz [qo 6 (.mov (.const (.slice none 0 0)))] (qz [qo 6 (.mov (.const (.slice none 0 0)))] .ret))
def rs165 : List RV := [.tmp 6]
set_option maxRecDepth 100000 in
theorem comp165 : compFn Tryz.prog Tryz.f165 = some (vc165, rs165) := by kernel_rfl
def vc166 : VCode := (qz [qo 6 (.mov (.const (.slice none 0 0)))] (qz [qm 7 0,qm 8 2,qo 9 (qb .sub 7 8),qo 10 (.bslice 3 1 1 [.int .i64 0] [(0,(1,qu 9))]),qm 6 10] .ret))
def rs166 : List RV := [.tmp 6]
set_option maxRecDepth 100000 in
theorem comp166 : compFn Tryz.prog Tryz.f166 = some (vc166, rs166) := by kernel_rfl
def vc167 : VCode := (qz [qo 6 (.mov (.const (.slice none 0 0)))] (qz [qm 7 1,qo 8 (.bslice 3 1 1 [.int .i64 0] [(0,(1,qu 7))]),qm 6 8] .ret))
def rs167 : List RV := [.tmp 6]
set_option maxRecDepth 100000 in
theorem comp167 : compFn Tryz.prog Tryz.f167 = some (vc167, rs167) := by kernel_rfl
def vc171 : VCode := (qz [qo 4 (qw 0)] (qz [qm 6 0,qm 7 1,qo 8 (qb .rem 6 7),qm 5 8] (.seq (qz [qm 9 5,qo 10 (qc .lss 9 0)] (.cond (qu 10) (.ops [qm 11 5,qm 12 1,qo 13 (qb .add 11 12),qm 5 13]) .skip)) (qz [qm 14 5,qm 4 14] .ret))))
def rs171 : List RV := [.tmp 4]
set_option maxRecDepth 100000 in
theorem comp171 : compFn Tryz.prog Tryz.f171 = some (vc171, rs171) := by kernel_rfl
def vc183 : VCode := (qz [qo 4 (qw 0)] (.seq (qz [qm 6 0,qn 7 6,qo 8 (qw 0)] (.block 0 (.loop (qz [qo 9 (qb .lss 8 7)] (.seq (.cond (qu 9) .skip (.exit 0)) (.seq (.block 1 (qz [qm 10 8,qm 5 10] (qz [qm 11 1,qm 12 0,qm 13 5,qi 14 12 13 1,ql 15 14,qo 16 (.callv true (qu 11) [qu 15])] (.cond (qu 16) (qz [qm 17 5,qm 4 17] .ret) .skip)))) (.ops [qo 18 (qc .add 8 1),qm 8 18]))))))) (qz [qo 4 (qw (-1))] .ret)))
def rs183 : List RV := [.tmp 4]
set_option maxRecDepth 100000 in
theorem comp183 : compFn Tryz.prog Tryz.f183 = some (vc183, rs183) := by kernel_rfl
def vc184 : VCode := (qz [qo 4 (qw 0),qo 5 (qw 0)] (.seq (qz [qm 7 0,qo 8 (qc .lss 7 1),qm 9 8,qg 10 9 (qv 1),qg 11 9 (qc .lss 10 1),qo 12 (qp 9 11)] (.cond (qu 12) (qz [qo 4 (qw 0),qo 5 (qw 1)] .ret) .skip)) (qz [qm 13 0,qm 14 0,qm 15 1,qo 16 (.call true 196 [qu 14,qu 15]),qo 17 (qb .quo 13 16),qm 6 17] (.seq (qz [qm 18 6,qm 19 1,qo 20 (.bin .quo (qk 1099511627776) (qu 19)),qo 21 (qb .gtr 18 20)] (.cond (qu 21) (qz [qo 4 (qw 0),qo 5 (qw 2)] .ret) .skip)) (qz [qm 22 6,qm 23 1,qo 24 (qb .mul 22 23),qm 4 24,qo 5 (qw 0)] .ret)))))
def rs184 : List RV := [.tmp 4, .tmp 5]
set_option maxRecDepth 100000 in
theorem comp184 : compFn Tryz.prog Tryz.f184 = some (vc184, rs184) := by kernel_rfl
def vc185 : VCode := (qz [qo 1 (.box (qu 0)),qo 2 (.alloc [.int .i64 0,.slice none 0 0,.int .i64 0,.slice none 0 0,.slice none 0 0]),qo 3 (qy false)] (.seq (qz [qo 8 (.load (some 4) (qu 1)),qo 9 (.call true 106 [qu 8]),qo 10 (.un .not (qu 9))] (.cond (qu 10) (qz [qo 11 (.build [.int .i64 0,.slice none 0 0,.int .i64 0,.slice none 0 0,.slice none 0 0] []),qs (.store 5 (qu 2) (qu 11)),qo 3 (qy false)] .ret) .skip)) (qz [qf 13 1 3,ql 14 13,qo 15 (.call true 154 [qu 14]),qm 12 15,qx 16 12 0,qx 17 12 1,qm 4 16,qm 5 17] (qz [qo 18 (.load (some 4) (qu 1)),qm 19 4,qo 20 (qc .add 19 1),qo 21 (.mkslice 3 1 8 [.int .i64 0] (qk 1) (qu 20)),qo 22 (.build [.int .i64 0,.slice none 0 0,.int .i64 0,.slice none 0 0,.slice none 0 0] [(0,(4,qu 18)),(4,(1,qu 21))]),qo 6 (.alloc [.int .i64 0,.slice none 0 0,.int .i64 0,.slice none 0 0,.slice none 0 0]),qs (.store 5 (qu 6) (qu 22))] (.seq (qz [qm 23 4,qo 24 (qw 0)] (.block 0 (.loop (qz [qo 25 (qb .lss 24 23)] (.seq (.cond (qu 25) .skip (.exit 0)) (.seq (.block 1 (qz [qm 26 24,qm 7 26] (.ops [qf 27 6 4,ql 28 27,qf 29 6 4,ql 30 29,qm 31 7,qi 32 30 31 1,ql 33 32,qo 34 (.load (some 5) (qu 6)),qm 35 7,qo 36 (qc .add 35 1),qo 37 (.call false 189 [qu 34,qu 36]),qo 38 (qb .add 33 37),qo 39 (.bslice 3 1 1 [.int .i64 0] [(0,(1,qu 38))]),qo 40 (.append 3 1 8 (qu 28) (qu 39)),qf 41 6 4,qs (.store 1 (qu 41) (qu 40))]))) (.ops [qo 42 (qc .add 24 1),qm 24 42]))))))) (qz [qo 43 (.load (some 5) (qu 6)),qs (.store 5 (qu 2) (qu 43)),qo 3 (qy true)] .ret))))))
def rs185 : List RV := [.cell 2 (some 5), .tmp 3]
set_option maxRecDepth 100000 in
theorem comp185 : compFn Tryz.prog Tryz.f185 = some (vc185, rs185) := by kernel_rfl
def vc186 : VCode := (qz [qo 1 (.box (qu 0)),qo 2 (qw 0),qo 3 (qw 0)] (qz [qf 4 1 4,ql 5 4,qn 6 5,qo 7 (qc .sub 6 1),qm 2 7] (qz [qm 8 2,qf 9 1 4,ql 10 9,qm 11 2,qi 12 10 11 1,ql 13 12,qm 2 8,qm 3 13] .ret)))
def rs186 : List RV := [.tmp 2, .tmp 3]
set_option maxRecDepth 100000 in
theorem comp186 : compFn Tryz.prog Tryz.f186 = some (vc186, rs186) := by kernel_rfl
def vc187 : VCode := (qz [qo 3 (.box (qu 0)),qo 6 (qw 0)] (.seq (qz [qo 7 (.load (some 4) (qu 3)),qo 8 (.call true 106 [qu 7]),qo 9 (.un .not (qu 8)),qm 10 9,qg 11 10 (qv 2),qg 12 10 (qc .lss 11 1),qo 13 (qp 10 12),qm 14 13,qg 15 14 (qv 2),qg 16 14 (qe 3 1),qg 17 14 (qd 16),qg 18 14 (qj 17),qg 19 14 (qb .gtr 15 18),qo 20 (qp 14 19)] (.cond (qu 20) (qz [qo 6 (qw 0)] .ret) .skip)) (qz [qo 21 (.load (some 4) (qu 3)),qo 22 (.build [.int .i64 0,.slice none 0 0,.int .i64 0,.slice none 0 0,.slice none 0 0] [(0,(4,qu 21))]),qm 23 1,qm 24 2,qo 25 (.call true 197 [qu 22,qu 23,qu 24]),qm 6 25] .ret)))
def rs187 : List RV := [.tmp 6]
set_option maxRecDepth 100000 in
theorem comp187 : compFn Tryz.prog Tryz.f187 = some (vc187, rs187) := by kernel_rfl
def vc188 : VCode := (qz [qo 2 (qw 0)] (qz [qm 3 0,qo 4 (.call true 198 [qu 3,qk 7]),qm 2 4] .ret))
def rs188 : List RV := [.tmp 2]
set_option maxRecDepth 100000 in
theorem comp188 : compFn Tryz.prog Tryz.f188 = some (vc188, rs188) := by kernel_rfl
def vc189 : VCode := (qz [qo 2 (.box (qu 0)),qo 4 (qw 0)] (qz [qo 5 (qw 0)] (.seq (qz [qf 7 2 0,qf 8 7 1,ql 9 8,qn 10 9,qo 11 (qw 0)] (.block 0 (.loop (qz [qo 12 (qb .lss 11 10)] (.seq (.cond (qu 12) .skip (.exit 0)) (.seq (.block 1 (qz [qm 13 11,qm 6 13] (.ops [qm 14 5,qo 15 (.load (some 5) (qu 2)),qm 16 1,qm 17 6,qo 18 (qc .add 17 1),qo 19 (.call true 197 [qu 15,qu 16,qu 18]),qo 20 (qb .add 14 19),qm 5 20]))) (.ops [qo 21 (qc .add 11 1),qm 11 21]))))))) (qz [qm 22 5,qm 4 22] .ret))))
def rs189 : List RV := [.tmp 4]
set_option maxRecDepth 100000 in
theorem comp189 : compFn Tryz.prog Tryz.f189 = some (vc189, rs189) := by kernel_rfl
def vc191 : VCode := (qz [qo 2 (.box (qu 0)),qo 4 (qw 0)] (qz [qf 5 2 0,ql 6 5,qm 7 1,qo 8 (.call true 69 [qu 6,qu 7]),qm 4 8] .ret))
def rs191 : List RV := [.tmp 4]
set_option maxRecDepth 100000 in
theorem comp191 : compFn Tryz.prog Tryz.f191 = some (vc191, rs191) := by kernel_rfl
def vc192 : VCode := (qz [qo 6 (qw 0),qo 7 (qy false)] (qz [qm 12 0,qn 13 12,qm 8 13] (qz [qm 14 8,qo 9 (qw 0),qm 10 14] (.seq (.block 0 (.loop (.seq (qz [qm 15 9,qm 16 10,qo 17 (qb .lss 15 16)] (.cond (qu 17) .skip (.exit 0))) (.block 1 (qz [qm 18 9,qm 19 10,qo 20 (qb .add 18 19),qo 21 (.conv .u64 (qu 20)),qo 22 (.shift false (qu 21) (.const (.int .u64 1))),qo 23 (.conv .i64 (qu 22)),qm 11 23] (qz [qm 24 2,qm 25 0,qm 26 11,qi 27 25 26 2,qo 28 (.load (some 2) (qu 27)),qm 29 1,qo 30 (.callv true (qu 24) [qu 28,qu 29]),qo 31 (qc .lss 30 0)] (.cond (qu 31) (.ops [qm 32 11,qo 33 (qc .add 32 1),qm 9 33]) (.ops [qm 34 11,qm 10 34])))))))) (qz [qm 35 9,qm 36 9,qm 37 8,qo 38 (qb .lss 36 37),qm 39 38,qt 40 39 (qv 2),qt 41 39 (qv 0),qt 42 39 (qv 9),qt 43 39 (qh 41 42 2),qt 44 39 (.load (some 2) (qu 43)),qt 45 39 (qv 1),qt 46 39 (.callv true (qu 40) [qu 44,qu 45]),qt 47 39 (qc .eql 46 0),qo 48 (qr 39 47),qm 6 35,qm 7 48] .ret)))))
def rs192 : List RV := [.tmp 6, .tmp 7]
set_option maxRecDepth 100000 in
theorem comp192 : compFn Tryz.prog Tryz.f192 = some (vc192, rs192) := by kernel_rfl
def vc196 : VCode := (qz [qo 4 (qw 0)] (qz [qm 7 0,qo 8 (.call true 207 [qu 7]),qm 9 1,qo 10 (.call true 207 [qu 9]),qm 5 8,qm 6 10] (.seq (.block 0 (.loop (.seq (qz [qm 11 6,qo 12 (.bin .neq (qu 11) (.const (.int .u64 0)))] (.cond (qu 12) .skip (.exit 0))) (.block 1 (.ops [qm 13 6,qm 14 5,qm 15 6,qo 16 (qb .rem 14 15),qm 5 13,qm 6 16]))))) (.seq (qz [qm 17 5,qo 18 (.bin .gtr (qu 17) (.const (.int .u64 9223372036854775807)))] (.cond (qu 18) (qz [qo 4 (qw 0)] .ret) .skip)) (qz [qm 19 5,qo 20 (.conv .i64 (qu 19)),qm 4 20] .ret)))))
def rs196 : List RV := [.tmp 4]
set_option maxRecDepth 100000 in
theorem comp196 : compFn Tryz.prog Tryz.f196 = some (vc196, rs196) := by kernel_rfl
def vc197 : VCode := (qz [qo 3 (.box (qu 0)),qo 6 (qw 0)] (qz [qf 8 3 0,qf 9 8 1,ql 10 9,qm 11 2,qo 12 (qc .sub 11 1),qi 13 10 12 1,ql 14 13,qm 7 14] (.seq (qz [qm 15 2,qo 16 (qc .sub 15 1),qf 17 3 0,qf 18 17 2,ql 19 18,qo 20 (qb .eql 16 19),qm 21 20,qt 22 21 (.load (some 5) (qu 3)),qt 23 21 (qv 1),qt 24 21 (.call true 208 [qu 22,qu 23]),qo 25 (qr 21 24)] (.cond (qu 25) (.ops [qm 26 7,qo 27 (qc .add 26 1),qm 7 27]) .skip)) (qz [qm 28 7,qm 6 28] .ret))))
def rs197 : List RV := [.tmp 6]
set_option maxRecDepth 100000 in
theorem comp197 : compFn Tryz.prog Tryz.f197 = some (vc197, rs197) := by kernel_rfl
def vc198 : VCode := (qz [qo 4 (qw 0)] (qz [qm 8 0,qm 9 1,qo 10 (.call true 209 [qu 8,qu 9]),qm 7 10,qx 11 7 0,qx 12 7 1,qm 5 11,qm 6 12] (qz [qm 13 5,qm 4 13] .ret)))
def rs198 : List RV := [.tmp 4]
set_option maxRecDepth 100000 in
theorem comp198 : compFn Tryz.prog Tryz.f198 = some (vc198, rs198) := by kernel_rfl
def vc207 : VCode := (qz [qo 2 (.mov (.const (.int .u64 0)))] (.seq (qz [qm 3 0,qo 4 (qc .lss 3 0)] (.cond (qu 4) (qz [qm 5 0,qo 6 (.conv .u64 (qu 5)),qo 7 (.un .neg (qu 6)),qm 2 7] .ret) .skip)) (qz [qm 8 0,qo 9 (.conv .u64 (qu 8)),qm 2 9] .ret)))
def rs207 : List RV := [.tmp 2]
set_option maxRecDepth 100000 in
theorem comp207 : compFn Tryz.prog Tryz.f207 = some (vc207, rs207) := by kernel_rfl
def vc209 : VCode := (qz [qo 4 (qw 0),qo 5 (qw 0)] (.seq (qz [qm 6 1,qo 7 (qc .lss 6 1)] (.cond (qu 7) (qz [qo 4 (qw 0),qo 5 (qw 1)] .ret) .skip)) (qz [qm 8 0,qm 9 1,qo 10 (.call true 214 [qu 8,qu 9]),qm 4 10,qo 5 (qw 0)] .ret)))
def rs209 : List RV := [.tmp 4, .tmp 5]
set_option maxRecDepth 100000 in
theorem comp209 : compFn Tryz.prog Tryz.f209 = some (vc209, rs209) := by kernel_rfl
def vc214 : VCode := (qz [qo 4 (qw 0)] (qz [qm 6 0,qm 7 1,qo 8 (qb .rem 6 7),qm 5 8] (.seq (qz [qm 9 5,qo 10 (qc .lss 9 0)] (.cond (qu 10) (.ops [qm 11 5,qm 12 1,qo 13 (qb .add 11 12),qm 5 13]) .skip)) (qz [qm 14 5,qm 4 14] .ret))))
def rs214 : List RV := [.tmp 4]
set_option maxRecDepth 100000 in
theorem comp214 : compFn Tryz.prog Tryz.f214 = some (vc214, rs214) := by kernel_rfl
end Go.Proofs.YtdgndfabdmecmaaGreat
namespace Go.Proofs.YtdgndfabdmecmaaGreat
open Go.Proofs.YtdgndfabdmecmaaGreat.Vc
theorem mix : Tryz.prog.follows .mixedOrders = true := by kernel_rfl
end Go.Proofs.YtdgndfabdmecmaaGreat
namespace Go.Proofs.YtdgndfabdmecmaaGreat
set_option linter.unusedSectionVars false
variable [Go.Proofs.YtdgndfabdmecmaaGreat.Vc.Drew]
open Go.Proofs.YtdgndfabdmecmaaGreat.Vc
structure Mv where
 day : Int
 drop : Bool
 toDay : Int
 minute : Int
 length : Int
 deriving DecidableEq
structure Ed where
 kind : Int
 day : Int
 device : Int
 seq : Int
 mv : Mv
 minute : Int
 length : Int
 ra : Option Addr
 rn : Nat
 rc : Nat
 zone : ByteArray
def Mv.cells (m : Mv) : List Value := [.int .i64 m.day, .bool m.drop, .int .i64 m.toDay, .int .i64 m.minute, .int .i64 m.length]
def Mv.val (m : Mv) : Value := .agg #[.int .i64 m.day, .bool m.drop, .int .i64 m.toDay, .int .i64 m.minute, .int .i64 m.length]
def Ed.val (e : Ed) : Value := .agg #[.int .i64 e.kind, .int .i64 e.day, .int .i64 e.device, .int .i64 e.seq, .int .i64 e.mv.day, .bool e.mv.drop, .int .i64 e.mv.toDay, .int .i64 e.mv.minute, .int .i64 e.mv.length, .int .i64 e.minute, .int .i64 e.length, .slice e.ra e.rn e.rc, .string e.zone]
def betw (lo x hi : Int) : Bool := decide (lo ≤ x ∧ x ≤ hi)
theorem eBetween (lo x hi : Int) (R : RO) : CallsR Tryz.prog 37 [.int .i64 lo, .int .i64 x, .int .i64 hi] R fun _ v => v = .bool (betw lo x hi) := by
 refine callsT mix Tryz.func37 comp37 (by simp [Tryz.ntmps37]) ?_; simp only [go_sem, ↓reduceIte, Qa, Qb, Qc, Qd, Qe, Qf, reduceCtorEq, vc37, rs37]
 unfold betw
 refine ⟨fun h => ?_, fun h => ?_⟩
 ·simp [h]
 ·simp [h]
theorem eNaN (a : Int) (R : RO) : CallsR Tryz.prog 101 [.int .i64 a] R fun _ v => v = .bool false := by
 refine callsT mix Tryz.func101 comp101 (by simp [Tryz.ntmps101]) ?_; simp only [go_sem, ↓reduceIte, Qa, Qb, Qc, Qd, Qe, Qf, reduceCtorEq, vc101, rs101]
def cmpI (a b : Int) : Int := if a < b then -1 else if b < a then 1 else 0
theorem eCompare (a b : Int) (R : RO) : CallsR Tryz.prog 69 [.int .i64 a, .int .i64 b] R fun _ v => v = .int .i64 (cmpI a b) := by
 refine callsT mix Tryz.func69 comp69 (by simp [Tryz.ntmps69]) ?_; simp only [go_sem, ↓reduceIte, Qa, Qb, Qc, Qd, Qe, Qf, reduceCtorEq, vc69, rs69]
 refine vcall (eNaN a R) ?_
 rintro R1 v h1 rfl
 try simp only [go_sem, ↓reduceIte, Qa, Qb, Qc, Qd, Qe, Qf, reduceCtorEq]
 refine vcall (eNaN b R1) ?_
 rintro R2 v h2 rfl
 try simp only [go_sem, ↓reduceIte, Qa, Qb, Qc, Qd, Qe, Qf, reduceCtorEq]
 unfold cmpI
 refine ⟨fun h => by simp [h], fun h => ⟨fun h' => by simp [h, h'], fun h' => by simp [h, h']⟩⟩
end Go.Proofs.YtdgndfabdmecmaaGreat
namespace Go.Proofs.YtdgndfabdmecmaaGreat
set_option linter.unusedSectionVars false
variable [Go.Proofs.YtdgndfabdmecmaaGreat.Vc.Drew]
open Go.Proofs.YtdgndfabdmecmaaGreat.Vc
def moveOK (m : Mv) : Bool := betw 0 m.day 1099511627776 && if m.drop then decide (m.toDay = 0 ∧ m.minute = 0 ∧ m.length = 0) else betw 0 m.toDay 1099511627776 && betw 0 m.minute 1439 && betw 1 m.length 10080
theorem eValidMove (m : Mv) (R : RO) : CallsR Tryz.prog 29 [m.val] R fun _ v => v = .bool (moveOK m) := by
 obtain ⟨day, drop, toDay, minute, length⟩ := m
 simp only [Mv.val]
 refine callsT mix Tryz.func29 comp29 (by simp [Tryz.ntmps29]) ?_; simp only [go_sem, ↓reduceIte, Qa, Qb, Qc, Qd, Qe, Qf, reduceCtorEq, vc29, rs29]
 refine vcall (eBetween 0 day 1099511627776 R) ?_
 rintro R1 v h1 rfl
 try simp only [go_sem, ↓reduceIte, Qa, Qb, Qc, Qd, Qe, Qf, reduceCtorEq]
 unfold moveOK
 refine ⟨fun h => by simp [h], fun h => ⟨fun hd => ?_, fun hd => ?_⟩⟩
 ·subst hd
  simp [h]
 ·subst hd
  refine vcall (eBetween 0 toDay 1099511627776 R1) ?_
  rintro R2 v h2 rfl
  try simp only [go_sem, ↓reduceIte, Qa, Qb, Qc, Qd, Qe, Qf, reduceCtorEq]
  refine ⟨fun g1 => ?_, fun g1 => by simp [h, g1]⟩
  refine vcall (eBetween 0 minute 1439 R2) ?_
  rintro R3 v h3 rfl
  try simp only [go_sem, ↓reduceIte, Qa, Qb, Qc, Qd, Qe, Qf, reduceCtorEq]
  refine ⟨fun g2 => ?_, fun g2 => by simp [h, g1, g2]⟩
  refine vcall (eBetween 1 length 10080 R3) ?_
  rintro R4 v h4 rfl
  try simp only [go_sem, ↓reduceIte, Qa, Qb, Qc, Qd, Qe, Qf, reduceCtorEq]
  simp [h, g1, g2]
def orI : List Int → Int
 | [] => 0
 | x :: r => if x = 0 then orI r else x
theorem eOr (xs : List Int) (v : Value) (R : RO) (h : Ints R v xs) (hl : xs.length ≤ 1099511627776) : CallsR Tryz.prog 84 [v] R fun _ r => r = .int .i64 (orI xs) := by
 obtain ⟨a, cap, rfl, hc, hf⟩ := h.form
 refine callsT mix Tryz.func84 comp84 (by simp [Tryz.ntmps84]) ?_; simp only [go_sem, ↓reduceIte, Qa, Qb, Qc, Qd, Qe, Qf, reduceCtorEq, vc84, rs84]
 refine vcLoop Nat (fun i => [(8, .val (.int .i64 i)), (6, .val (.slice a xs.length cap)), (7, .val (.int .i64 xs.length)), (3, .val (.int .i64 0))]) (fun _ => []) (fun i _ => i ≤ xs.length ∧ orI xs = orI (xs.drop i)) (fun i => xs.length - i) 0 ?_ rfl ?_ ?_
 ·(try simp only [go_sem, ↓reduceIte, Qa, Qb, Qc, Qd, Qe, Qf, reduceCtorEq]) <;> (repeat' (first | rfl | trivial | constructor | (intro h; exact absurd rfl h)))
 ·exact ⟨Nat.zero_le _, by simp⟩
 rintro i env R1 hle hE ⟨hi, hp⟩
 (simp only [go_sem] at hE; obtain ⟨e8, e6, e7, e3⟩ := hE; simp only [go_sem, ↓reduceIte, Qa, Qb, Qc, Qd, Qe, Qf, reduceCtorEq, e8, e6, e7, e3]; dsimp only at *)
 refine ⟨fun hlt => ⟨hlt, ?_⟩, fun hge => ?_⟩
 ·have hlt' : i < xs.length := by omega
  obtain ⟨ad, had, hR⟩ := hf i hlt'
  refine vat ad had ?_
  try simp only [go_sem, ↓reduceIte, Qa, Qb, Qc, Qd, Qe, Qf, reduceCtorEq]
  refine vload _ (hle _ _ hR) ?_
  simp only [go_sem, ↓reduceIte, Qa, Qb, Qc, Qd, Qe, Qf, reduceCtorEq, e8, e6, e7, e3]
  rw [List.drop_eq_getElem_cons hlt'] at hp
  refine ⟨fun hne => ?_, fun heq => ?_⟩
  ·rw [hp, orI, if_neg hne]
  ·refine ⟨_, W.in64 (by omega), i + 1, by omega, by constructor, by omega, ?_⟩
   rw [hp, orI, if_pos heq]
 ·obtain rfl : i = xs.length := by omega
  rw [hp, List.drop_length]; rfl
def lessE (a b : Ed) : Bool := decide (a.seq < b.seq ∨ a.seq = b.seq ∧ a.device < b.device)
def cmpE (a b : Ed) : Int := if cmpI a.seq b.seq = 0 then cmpI a.device b.device else cmpI a.seq b.seq
theorem eCompareE (a b : Ed) (R : RO) : CallsR Tryz.prog 59 [a.val, b.val] R fun _ v => v = .int .i64 (cmpE a b) := by
 simp only [Ed.val]
 refine callsT mix Tryz.func59 comp59 (by simp [Tryz.ntmps59]) ?_; simp only [go_sem, ↓reduceIte, Qa, Qb, Qc, Qd, Qe, Qf, reduceCtorEq, vc59, rs59]
 refine vcall (eCompare a.seq b.seq R) ?_
 rintro R1 v h1 rfl
 try simp only [go_sem, ↓reduceIte, Qa, Qb, Qc, Qd, Qe, Qf, reduceCtorEq]
 refine vcall (eCompare a.device b.device R1) ?_
 rintro R2 v h2 rfl
 try simp only [go_sem, ↓reduceIte, Qa, Qb, Qc, Qd, Qe, Qf, reduceCtorEq]
 refine vfreeze ?_
 try simp only [go_sem, ↓reduceIte, Qa, Qb, Qc, Qd, Qe, Qf, reduceCtorEq]
 intro bb cap R3 hle hrow hcap hfr
 have hI : Ints R3 (.slice (some ⟨bb, 0, none⟩) 2 cap) [cmpI a.seq b.seq, cmpI a.device b.device] := RowIn.ints (xs := [cmpI a.seq b.seq, cmpI a.device b.device]) hrow (by simpa using hcap)
 refine vcall (eOr _ _ R3 hI (by simp)) ?_
 rintro R4 v h4 rfl
 try simp only [go_sem, ↓reduceIte, Qa, Qb, Qc, Qd, Qe, Qf, reduceCtorEq]
 unfold cmpE
 simp only [orI]
 by_cases h1 : cmpI a.seq b.seq = 0
 ·by_cases h2 : cmpI a.device b.device = 0 <;> simp [h1, h2]
 ·simp [h1]
theorem cmpE_neg (a b : Ed) : (cmpE a b < 0) = (a.seq < b.seq ∨ a.seq = b.seq ∧ a.device < b.device) := by
 unfold cmpE cmpI
 apply propext
 split <;> split <;> (repeat' split) <;> omega
theorem eLess (a b : Ed) (R : RO) : CallsR Tryz.prog 60 [a.val, b.val] R fun _ v => v = .bool (lessE a b) := by
 have h := eCompareE a b
 simp only [Ed.val] at h ⊢
 refine callsT mix Tryz.func60 comp60 (by simp [Tryz.ntmps60]) ?_; simp only [go_sem, ↓reduceIte, Qa, Qb, Qc, Qd, Qe, Qf, reduceCtorEq, vc60, rs60]
 refine vcall (h R) ?_
 rintro R1 v h1 rfl
 try simp only [go_sem, ↓reduceIte, Qa, Qb, Qc, Qd, Qe, Qf, reduceCtorEq]
 unfold lessE
 simp only [cmpE_neg]
end Go.Proofs.YtdgndfabdmecmaaGreat
namespace Go.Proofs.YtdgndfabdmecmaaGreat
set_option linter.unusedSectionVars false
variable [Go.Proofs.YtdgndfabdmecmaaGreat.Vc.Drew]
open Go.Proofs.YtdgndfabdmecmaaGreat.Vc
def overE (a b : Ed) : Bool :=
 if a.kind = 1 ∧ b.kind = 1 then lessE a b && decide (a.day = b.day)
 else if a.kind = 1 ∧ b.kind = 3 ∨ a.kind = 2 ∧ b.kind = 2 ∨ a.kind = 3 ∧ b.kind = 3 then lessE a b && decide (b.day ≤ a.day)
 else if a.kind = 4 ∧ b.kind = 4 then lessE a b
 else if a.kind = 1 ∧ b.kind = 5 ∨ a.kind = 2 ∧ b.kind = 5 ∨ a.kind = 3 ∧ b.kind = 5 then decide (b.day ≤ a.day)
 else if a.kind = 5 ∧ b.kind = 5 then decide (b.day < a.day) || decide (b.day = a.day) && lessE a b
 else false
theorem eOverrules (a b : Ed) (R : RO) : CallsR Tryz.prog 28 [a.val, b.val] R fun _ v => v = .bool (overE a b) := by
 have hL := eLess a b
 simp only [Ed.val] at hL ⊢
 refine callsT mix Tryz.func28 comp28 (by simp [Tryz.ntmps28]) ?_; simp only [go_sem, ↓reduceIte, Qa, Qb, Qc, Qd, Qe, Qf, reduceCtorEq, vc28, rs28]
 refine vcall (hL R) ?_
 rintro R1 v h1 rfl
 try simp only [go_sem, ↓reduceIte, Qa, Qb, Qc, Qd, Qe, Qf, reduceCtorEq]
 unfold overE
 generalize lessE a b = l
 clear hL
 have hb : ∀ (p q : Prop) [Decidable p] [Decidable q], ((decide p && decide q) = false) = ¬ (p ∧ q) := fun p q => by simp
 simp only [hb]
 repeat' (with_reducible first | refine And.intro ?_ ?_ | intro _)
 all_goals (congr 1)
 all_goals (try subst_vars)
 all_goals (repeat' split)
 all_goals first
  | rfl
  | (exfalso; omega)
  | (simp; done)
  | (simp; omega)
  | (cases l <;> simp <;> omega)
end Go.Proofs.YtdgndfabdmecmaaGreat
namespace Go.Proofs.YtdgndfabdmecmaaGreat
set_option linter.unusedSectionVars false
variable [Go.Proofs.YtdgndfabdmecmaaGreat.Vc.Drew]
open Go.Proofs.YtdgndfabdmecmaaGreat.Vc
def mvZ (m : Mv) : Bool := decide (m.day = 0) && (m.drop == false && (decide (m.toDay = 0) && (decide (m.minute = 0) && (decide (m.length = 0) && true))))
def restZ (mv : Bool) (minute length : Int) (rn : Nat) (z : Bool) : Bool := mv && decide (minute = 0) && decide (length = 0) && decide ((rn : Int) = 0) && z
def kindE (e : Ed) : Bool :=
 if e.kind = 1 then moveOK e.mv && decide (e.mv.day = e.day) && restZ true e.minute e.length e.rn (e.zone == ⟨#[]⟩)
 else if e.kind = 2 then betw 0 e.minute 1439 && betw 1 e.length 10080 && restZ (mvZ e.mv) 0 0 e.rn (e.zone == ⟨#[]⟩)
 else if e.kind = 3 then betw 1 e.rn 64 && restZ (mvZ e.mv) e.minute e.length 0 (e.zone == ⟨#[]⟩)
 else if e.kind = 4 then decide (e.day = 0) && betw 1 e.zone.size 32 && restZ (mvZ e.mv) e.minute e.length e.rn true
 else if e.kind = 5 then restZ (mvZ e.mv) e.minute e.length e.rn (e.zone == ⟨#[]⟩)
 else false
def validE (e : Ed) : Bool := betw 0 e.device 15 && betw 1 e.seq 1099511627776 && betw 0 e.day 1099511627776 && kindE e
theorem empty_beq : ((⟨#[]⟩ : ByteArray) == ⟨#[]⟩) = true := rfl
theorem eValid (e : Ed) (R : RO) : CallsR Tryz.prog 55 [e.val] R fun _ v => v = .bool (validE e) := by
 have hm := eValidMove e.mv
 simp only [Ed.val, Mv.val] at hm ⊢
 refine callsT mix Tryz.func55 comp55 (by simp [Tryz.ntmps55]) ?_; simp only [go_sem, ↓reduceIte, Qa, Qb, Qc, Qd, Qe, Qf, reduceCtorEq, vc55, rs55]
 refine vcall (eBetween 0 e.device 15 R) ?_
 rintro R1 v h1 rfl
 try simp only [go_sem, ↓reduceIte, Qa, Qb, Qc, Qd, Qe, Qf, reduceCtorEq]
 refine ⟨fun g1 => ?_, fun g1 => by simp [validE, g1]⟩
 refine vcall (eBetween 1 e.seq 1099511627776 R1) ?_
 rintro R2 v h2 rfl
 try simp only [go_sem, ↓reduceIte, Qa, Qb, Qc, Qd, Qe, Qf, reduceCtorEq]
 refine ⟨fun g2 => ?_, fun g2 => by simp [validE, g1, g2]⟩
 refine vcall (eBetween 0 e.day 1099511627776 R2) ?_
 rintro R3 v h3 rfl
 try simp only [go_sem, ↓reduceIte, Qa, Qb, Qc, Qd, Qe, Qf, reduceCtorEq]
 refine ⟨fun g3 => by simp [validE, g1, g2, g3], fun g3 => ?_⟩
 have hv : validE e = kindE e := by simp [validE, g1, g2, g3]
 refine ⟨fun k1 => ?_, fun k1 => ⟨fun k2 => ?_, fun k2 => ⟨fun k3 => ?_, fun k3 => ⟨fun k4 => ?_, fun k4 => ⟨fun k5 => ?_, fun k5 => ?_⟩⟩⟩⟩⟩
 ·rw [hv, kindE, if_pos k1]
  refine vcall (hm R3) ?_
  rintro R4 v h4 rfl
  try simp only [go_sem, ↓reduceIte, Qa, Qb, Qc, Qd, Qe, Qf, reduceCtorEq]
  repeat' (with_reducible first | refine And.intro ?_ ?_ | intro _)
  all_goals (simp_all [restZ, mvZ, empty_beq]; done)
 ·rw [hv, kindE, if_neg k1, if_pos k2]
  refine vcall (eBetween 0 e.minute 1439 R3) ?_
  rintro R4 v h4 rfl
  try simp only [go_sem, ↓reduceIte, Qa, Qb, Qc, Qd, Qe, Qf, reduceCtorEq]
  refine ⟨fun g4 => ?_, fun g4 => by simp [g4]⟩
  refine vcall (eBetween 1 e.length 10080 R4) ?_
  rintro R5 v h5 rfl
  try simp only [go_sem, ↓reduceIte, Qa, Qb, Qc, Qd, Qe, Qf, reduceCtorEq]
  repeat' (with_reducible first | refine And.intro ?_ ?_ | intro _)
  all_goals (simp_all [restZ, mvZ, empty_beq]; done)
 ·rw [hv, kindE, if_neg k1, if_neg k2, if_pos k3]
  refine vcall (eBetween 1 e.rn 64 R3) ?_
  rintro R4 v h4 rfl
  try simp only [go_sem, ↓reduceIte, Qa, Qb, Qc, Qd, Qe, Qf, reduceCtorEq]
  repeat' (with_reducible first | refine And.intro ?_ ?_ | intro _)
  all_goals (simp_all [restZ, mvZ, empty_beq]; done)
 ·rw [hv, kindE, if_neg k1, if_neg k2, if_neg k3, if_pos k4]
  refine ⟨fun g4 => ?_, fun g4 => by simp [g4]⟩
  refine vcall (eBetween 1 e.zone.size 32 R3) ?_
  rintro R4 v h4 rfl
  try simp only [go_sem, ↓reduceIte, Qa, Qb, Qc, Qd, Qe, Qf, reduceCtorEq]
  repeat' (with_reducible first | refine And.intro ?_ ?_ | intro _)
  all_goals (simp_all [restZ, mvZ, empty_beq]; done)
 ·rw [hv, kindE, if_neg k1, if_neg k2, if_neg k3, if_neg k4, if_pos k5]
  repeat' (with_reducible first | refine And.intro ?_ ?_ | intro _)
  all_goals (simp_all [restZ, mvZ, empty_beq]; done)
 ·rw [hv, kindE, if_neg k1, if_neg k2, if_neg k3, if_neg k4, if_neg k5]
end Go.Proofs.YtdgndfabdmecmaaGreat
namespace Go.Proofs.YtdgndfabdmecmaaGreat
set_option linter.unusedSectionVars false
variable [Go.Proofs.YtdgndfabdmecmaaGreat.Vc.Drew]
open Go.Proofs.YtdgndfabdmecmaaGreat.Vc
structure Nd where
 kind : Int
 cal : Int
 l : Int
 r : Int
 n : Int
 m : Int
 list : List Int
 name : ByteArray
 deriving DecidableEq
def Nd.cells (x : Nd) (lv : Value) : List Value := [.int .i64 x.kind, .int .i64 x.cal, .int .i64 x.l, .int .i64 x.r, .int .i64 x.n, .int .i64 x.m, lv, .string x.name]
def NodeV (R : RO) (cs : List Value) (x : Nd) : Prop := ∃ lv, cs = x.cells lv ∧ Ints R lv x.list ∧ x.list.length ≤ 1000000000
theorem NodeV.mono {R R' : RO} {cs : List Value} {x : Nd} (h : NodeV R cs x) (hle : RO.le R R') : NodeV R' cs x := by
 obtain ⟨lv, e, h, hl⟩ := h
 exact ⟨lv, e, h.mono hle, hl⟩
def RuleV (R : RO) (v : Value) (xs : List Nd) : Prop := ∃ cs : List (List Value), SlK R v 8 cs ∧ cs.length = xs.length ∧ (∀ (i : Nat) (c : List Value) (x : Nd), cs[i]? = some c → xs[i]? = some x → NodeV R c x) ∧ xs.length ≤ 1000000000
theorem RuleV.mono {R R' : RO} {v : Value} {xs : List Nd} (h : RuleV R v xs) (hle : RO.le R R') : RuleV R' v xs := by
 obtain ⟨cs, h1, h2, h3, h4⟩ := h
 exact ⟨cs, h1.mono hle, h2, fun i c x (hi : cs[i]? = some c) (hx : xs[i]? = some x) => (h3 i c x hi hx).mono hle, h4⟩
theorem eEqual (xs ys : List Int) (v u : Value) (R : RO) (h : Ints R v xs) (k : Ints R u ys) (hl : xs.length ≤ 1099511627776) : CallsR Tryz.prog 99 [v, u] R fun _ r => r = .bool (decide (xs = ys)) := by
 obtain ⟨a, cap, rfl, hc, hf⟩ := h.form
 obtain ⟨b, cap', rfl, hc', hf'⟩ := k.form
 refine callsT mix Tryz.func99 comp99 (by simp [Tryz.ntmps99]) ?_; simp only [go_sem, ↓reduceIte, Qa, Qb, Qc, Qd, Qe, Qf, reduceCtorEq, vc99, rs99]
 refine ⟨fun hne => ?_, fun he => ?_⟩
 ·rw [decide_eq_false]; rintro rfl; exact hne rfl
 have he' : xs.length = ys.length := by omega
 refine vcLoop Nat (fun i => [(13, .val (.int .i64 i)), (0, .val (.slice a xs.length cap)), (11, .val (.slice a xs.length cap)), (12, .val (.int .i64 xs.length)), (1, .val (.slice b ys.length cap'))]) (fun _ => []) (fun i _ => i ≤ xs.length ∧ xs.take i = ys.take i) (fun i => xs.length - i) 0 ?_ rfl ?_ ?_
 ·(try simp only [go_sem, ↓reduceIte, Qa, Qb, Qc, Qd, Qe, Qf, reduceCtorEq]) <;> (repeat' (first | rfl | trivial | constructor | (intro h; exact absurd rfl h)))
 ·exact ⟨Nat.zero_le _, rfl⟩
 rintro i env R1 hle hE ⟨hi, hp⟩
 (simp only [go_sem] at hE; obtain ⟨e13, e0, e11, e12, e1⟩ := hE; simp only [go_sem, ↓reduceIte, Qa, Qb, Qc, Qd, Qe, Qf, reduceCtorEq, e13, e0, e11, e12, e1]; dsimp only at *)
 refine ⟨fun hlt => ⟨hlt, ?_⟩, fun hge => ?_⟩
 ·have hlt' : i < xs.length := by omega
  obtain ⟨ad, had, hR⟩ := hf i hlt'
  obtain ⟨ad', had', hR'⟩ := hf' i (by omega)
  refine vat ad had ?_
  try simp only [go_sem, ↓reduceIte, Qa, Qb, Qc, Qd, Qe, Qf, reduceCtorEq]
  refine vload _ (hle _ _ hR) ?_
  simp only [go_sem, ↓reduceIte, Qa, Qb, Qc, Qd, Qe, Qf, reduceCtorEq, e13, e0, e11, e12, e1]
  refine ⟨by omega, vat ad' had' ?_⟩
  try simp only [go_sem, ↓reduceIte, Qa, Qb, Qc, Qd, Qe, Qf, reduceCtorEq]
  refine vload _ (hle _ _ hR') ?_
  simp only [go_sem, ↓reduceIte, Qa, Qb, Qc, Qd, Qe, Qf, reduceCtorEq, e13, e0, e11, e12, e1]
  refine ⟨fun hne => ?_, fun heq => ?_⟩
  ·rw [decide_eq_false]; rintro rfl; exact hne rfl
  ·refine ⟨_, W.in64 (by omega), i + 1, by omega, by constructor, by omega, ?_⟩
   rw [List.take_succ_eq_append_getElem hlt', List.take_succ_eq_append_getElem (by omega : i < ys.length), hp, heq]
 ·obtain rfl : i = xs.length := by omega
  rw [List.take_length, he', List.take_length] at hp
  simp [hp]
theorem bytes_beq (a : ByteArray) : (a == a) = true := by
 obtain ⟨x⟩ := a
 show (x == x) = true
 exact beq_self_eq_true x
theorem bytes_eq {a b : ByteArray} (h : (a == b) = true) : a = b := by
 obtain ⟨x⟩ := a
 obtain ⟨y⟩ := b
 have h' : (x == y) = true := h
 rw [eq_of_beq h']
theorem eSameNode (x y : Nd) (cx cy : List Value) (R : RO) (hx : NodeV R cx x) (hy : NodeV R cy y) : CallsR Tryz.prog 98 [.agg cx.toArray, .agg cy.toArray] R fun _ r => r = .bool (decide (x = y)) := by
 obtain ⟨lv, rfl, hi, hl⟩ := hx
 obtain ⟨lu, rfl, hi', hl'⟩ := hy
 obtain ⟨kind, cal, l, r, n, m, list, name⟩ := x
 obtain ⟨kind', cal', l', r', n', m', list', name'⟩ := y
 simp only [Nd.cells] at *
 refine callsT mix Tryz.func98 comp98 (by simp [Tryz.ntmps98]) ?_; simp only [go_sem, ↓reduceIte, Qa, Qb, Qc, Qd, Qe, Qf, reduceCtorEq, vc98, rs98]
 have hb : (name == name') = decide (name = name') := by
  by_cases e : name = name'
  ·subst e
   simp only [decide_true]
   exact bytes_beq name
  ·rw [decide_eq_false e]
   cases hq : (name == name') with
   | false => rfl
   | true => exact absurd (bytes_eq hq) e
 rw [hb]
 simp only [Nd.mk.injEq]
 repeat' (with_reducible first | refine And.intro ?_ ?_ | intro _)
 ·refine vcall (eEqual list list' lv lu R hi hi' (by omega)) ?_
  rintro R1 v h1 rfl
  try simp only [go_sem, ↓reduceIte, Qa, Qb, Qc, Qd, Qe, Qf, reduceCtorEq]
  simp_all
 all_goals simp_all
theorem SlK.form {R : RO} {v : Value} {k : Nat} {cs : List (List Value)} (h : SlK R v k cs) : ∃ a cap, v = .slice a cs.length cap ∧ cs.length ≤ cap ∧ ∀ i (hi : i < cs.length), (cs[i]).length = k ∧ ∃ ad, a = some ad ∧ ∀ j u, (cs[i])[j]? = some u → R ((ad.add (i * k)).add j) u := by
 obtain ⟨a, cap, e, hc, h⟩ := h
 exact ⟨a, cap, e, hc, fun i hi => h i _ (List.getElem?_eq_getElem hi)⟩
theorem hb62 : hasBody Tryz.prog 98 = true := by kernel_rfl
theorem eEqualFunc (xs ys : List Nd) (v u : Value) (R : RO) (h : RuleV R v xs) (k : RuleV R u ys) : CallsR Tryz.prog 85 [v, u, .func (.func 98) #[] #[]] R fun _ r => r = .bool (decide (xs = ys)) := by
 obtain ⟨cs, h1, h2, h3, h4⟩ := h
 obtain ⟨ds, k1, k2, k3, k4⟩ := k
 obtain ⟨a, cap, rfl, hc, hf⟩ := SlK.form h1
 obtain ⟨b, cap', rfl, hc', hf'⟩ := SlK.form k1
 refine callsT mix Tryz.func85 comp85 (by simp [Tryz.ntmps85]) ?_; simp only [go_sem, ↓reduceIte, Qa, Qb, Qc, Qd, Qe, Qf, reduceCtorEq, vc85, rs85]
 refine ⟨fun hne => ?_, fun he => ?_⟩
 ·rw [decide_eq_false]; rintro rfl; exact hne (by omega)
 have he' : xs.length = ys.length := by omega
 refine vcLoop Nat (fun i => [(17, .val (.int .i64 i)), (0, .val (.slice a cs.length cap)), (15, .val (.slice a cs.length cap)), (16, .val (.int .i64 cs.length)), (1, .val (.slice b ds.length cap')), (2, .val (.func (.func 98) #[] #[]))]) (fun _ => []) (fun i _ => i ≤ cs.length ∧ xs.take i = ys.take i) (fun i => cs.length - i) 0 ?_ rfl ?_ ?_
 ·(try simp only [go_sem, ↓reduceIte, Qa, Qb, Qc, Qd, Qe, Qf, reduceCtorEq]) <;> (repeat' (first | rfl | trivial | constructor | (intro h; exact absurd rfl h)))
 ·exact ⟨Nat.zero_le _, rfl⟩
 rintro i env R1 hle hE ⟨hi, hp⟩
 (simp only [go_sem] at hE; obtain ⟨e17, e0, e15, e16, e1, e2⟩ := hE; simp only [go_sem, ↓reduceIte, Qa, Qb, Qc, Qd, Qe, Qf, reduceCtorEq, e17, e0, e15, e16, e1, e2]; dsimp only at *)
 refine ⟨fun hlt => ⟨hlt, ?_⟩, fun hge => ?_⟩
 ·have hlt' : i < cs.length := by omega
  obtain ⟨hl, ad, had, hR⟩ := hf i hlt'
  obtain ⟨hl', ad', had', hR'⟩ := hf' i (by omega)
  have hx := h3 i _ _ (List.getElem?_eq_getElem hlt') (List.getElem?_eq_getElem (by omega))
  have hy := k3 i _ _ (List.getElem?_eq_getElem (by omega : i < ds.length)) (List.getElem?_eq_getElem (by omega : i < ys.length))
  obtain ⟨x, hxe⟩ : ∃ x, x = xs[i]'(by omega) := ⟨_, rfl⟩
  obtain ⟨y, hye⟩ : ∃ y, y = ys[i]'(by omega) := ⟨_, rfl⟩
  rw [← hxe] at hx
  rw [← hye] at hy
  have hx' := hx
  have hy' := hy
  obtain ⟨lv, hcx, hI, hIl⟩ := hx
  obtain ⟨lu, hcy, hI', hIl'⟩ := hy
  have ho : lv.oneCell' = true := by obtain ⟨_, _, rfl, _⟩ := hI.form; rfl
  have ho' : lu.oneCell' = true := by obtain ⟨_, _, rfl, _⟩ := hI'.form; rfl
  rw [hcx] at hR hx'
  rw [hcy] at hR' hy'
  refine vat ad had ?_
  try simp only [go_sem, ↓reduceIte, Qa, Qb, Qc, Qd, Qe, Qf, reduceCtorEq]
  refine vloadn (x.cells lv) rfl (fun j u hj => hle _ _ (hR j u hj)) ?_
  simp only [go_sem, ↓reduceIte, Qa, Qb, Qc, Qd, Qe, Qf, reduceCtorEq, Nd.cells, e17, e0, e15, e16, e1, e2]
  refine ⟨ho, by omega, vat ad' had' ?_⟩
  try simp only [go_sem, ↓reduceIte, Qa, Qb, Qc, Qd, Qe, Qf, reduceCtorEq]
  refine vloadn (y.cells lu) rfl (fun j u hj => hle _ _ (hR' j u hj)) ?_
  simp only [go_sem, ↓reduceIte, Qa, Qb, Qc, Qd, Qe, Qf, reduceCtorEq, Nd.cells, e17, e0, e15, e16, e1, e2]
  refine ⟨ho', ?_⟩
  refine ⟨hb62, vcall (eSameNode x y _ _ R1 (hx'.mono hle) (hy'.mono hle)) ?_⟩
  rintro R2 w h6 rfl
  simp only [go_sem, ↓reduceIte, Qa, Qb, Qc, Qd, Qe, Qf, reduceCtorEq, e17, e0, e15, e16, e1, e2]
  refine ⟨fun hne => ?_, fun heq => ?_⟩
  ·rw [decide_eq_false]; rintro rfl; exact hne (by rw [hxe, hye])
  ·refine ⟨_, W.in64 (by omega), i + 1, by omega, by constructor, by omega, ?_⟩
   rw [List.take_succ_eq_append_getElem (by omega : i < xs.length), List.take_succ_eq_append_getElem (by omega : i < ys.length), hp, ← hxe, ← hye, heq]
 ·obtain rfl : i = cs.length := by omega
  rw [h2, List.take_length, he', List.take_length] at hp
  simp [hp]
end Go.Proofs.YtdgndfabdmecmaaGreat
namespace Go.Proofs.YtdgndfabdmecmaaGreat
set_option linter.unusedSectionVars false
variable [Go.Proofs.YtdgndfabdmecmaaGreat.Vc.Drew]
open Go.Proofs.YtdgndfabdmecmaaGreat.Vc
structure De where
 kind : Int
 day : Int
 device : Int
 seq : Int
 mv : Mv
 minute : Int
 length : Int
 rule : List Nd
 zone : ByteArray
 deriving DecidableEq
def De.ed (d : De) (a : Option Addr) (n c : Nat) : Ed := ⟨d.kind, d.day, d.device, d.seq, d.mv, d.minute, d.length, a, n, c, d.zone⟩
def EdV (R : RO) (cs : List Value) (d : De) : Prop := ∃ a n c, .agg cs.toArray = (d.ed a n c).val ∧ RuleV R (.slice a n c) d.rule
theorem EdV.mono {R R' : RO} {cs : List Value} {d : De} (h : EdV R cs d) (hle : RO.le R R') : EdV R' cs d := by
 obtain ⟨a, n, c, e, h⟩ := h
 exact ⟨a, n, c, e, h.mono hle⟩
theorem RuleV.len {R : RO} {a : Option Addr} {n c : Nat} {xs : List Nd} (h : RuleV R (.slice a n c) xs) : n = xs.length := by
 obtain ⟨cs, ⟨a', cap, e, _⟩, h2, _⟩ := h
 simp only [Value.slice.injEq] at e
 omega
theorem eSameRule (xs ys : List Nd) (v u : Value) (R : RO) (h : RuleV R v xs) (k : RuleV R u ys) : CallsR Tryz.prog 63 [v, u] R fun _ r => r = .bool (decide (xs = ys)) := by
 have hc := eEqualFunc xs ys v u R h k
 obtain ⟨cs, ⟨a, cap, rfl, _⟩, h2, _⟩ := h
 obtain ⟨ds, ⟨b, cap', rfl, _⟩, k2, _⟩ := k
 refine callsT mix Tryz.func63 comp63 (by simp [Tryz.ntmps63]) ?_; simp only [go_sem, ↓reduceIte, Qa, Qb, Qc, Qd, Qe, Qf, reduceCtorEq, vc63, rs63]
 refine vcall hc ?_
 rintro R1 v h1 rfl
 try simp only [go_sem, ↓reduceIte, Qa, Qb, Qc, Qd, Qe, Qf, reduceCtorEq]
theorem eSame (x y : De) (cx cy : List Value) (R : RO) (hx : EdV R cx x) (hy : EdV R cy y) : CallsR Tryz.prog 56 [.agg cx.toArray, .agg cy.toArray] R fun _ r => r = .bool (decide (x = y)) := by
 obtain ⟨a, n, c, e, h⟩ := hx
 obtain ⟨a', n', c', e', h'⟩ := hy
 rw [e, e']
 clear e e'
 obtain ⟨kind, day, device, seq, mv, minute, length, rule, zone⟩ := x
 obtain ⟨kind', day', device', seq', mv', minute', length', rule', zone'⟩ := y
 obtain ⟨md, mr, mt, mm, ml⟩ := mv
 obtain ⟨md', mr', mt', mm', ml'⟩ := mv'
 simp only [De.ed, Ed.val] at *
 refine callsT mix Tryz.func56 comp56 (by simp [Tryz.ntmps56]) ?_; simp only [go_sem, ↓reduceIte, Qa, Qb, Qc, Qd, Qe, Qf, reduceCtorEq, vc56, rs56]
 have hb : (zone == zone') = decide (zone = zone') := by
  by_cases e : zone = zone'
  ·subst e
   simp only [decide_true]
   exact bytes_beq zone
  ·rw [decide_eq_false e]
   cases hq : (zone == zone') with
   | false => rfl
   | true => exact absurd (bytes_eq hq) e
 rw [hb]
 simp only [De.mk.injEq, Mv.mk.injEq]
 repeat' (with_reducible first | refine And.intro ?_ ?_ | intro _)
 ·refine vcall (eSameRule rule rule' _ _ R h h') ?_
  rintro R1 v h1 rfl
  try simp only [go_sem, ↓reduceIte, Qa, Qb, Qc, Qd, Qe, Qf, reduceCtorEq]
  simp_all
 all_goals (clear h h')
 all_goals simp_all
end Go.Proofs.YtdgndfabdmecmaaGreat
