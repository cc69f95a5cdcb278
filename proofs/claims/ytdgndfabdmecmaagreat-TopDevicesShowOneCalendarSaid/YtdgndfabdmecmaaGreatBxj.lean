/- Lemmas of our own, no statement of the seat; the last one of the claim's texts proves the law. -/
import Derived.Test.YtdgndfabdmecmaaGreatBxi
import Derived.Test.YtdgndfabdmecmaaGreatXj3
open Nat renaming reduceEqDiff → Qa, reduceAdd → Qb, reduceMul → Qc, reduceLeDiff → Qd, reduceLT → Qe, reduceBNe → Qf
open Int renaming reduceLE → Ja, reduceLT → Jb, reduceToNat → Jc, cast_ofNat_Int → Jd, reduceEq → Je, reduceNe → Jf
set_option linter.unusedSimpArgs false
set_option linter.unusedVariables false
namespace Go.Proofs.YtdgndfabdmecmaaGreat
open Go.ChangeShapes Go.WideShapes Go.ChangeAt Go.RowKit Go.Joins Go.Proofs.YtdgndfabdmecmaaGreat.Vc
set_option maxRecDepth 100000
theorem zbJ(os:Os)(started:os.Started)(H:Type)(enc:TypeId×Value→H) :
  ReturnsInHanded {} Tryz.checked os 5 .any (Rows.topDevicesShowOneCalendarSpec.pre6 enc Tryz.prog Tryz.f5 Rows.topDevicesShowOneCalendarRow.domain false) (Rows.topDevicesShowOneCalendarSpec.post enc Tryz.prog Tryz.f5 false true false false):=by
 refine zhN started (by kernel_rfl) Tryz.func5 rfl (tb:=4) (by kernel_rfl) (by kernel_rfl) (by rw[Tryz.params5];decide +kernel) (fun ds h=>?_)
  (ChangeSpec.witness6 (enc:=enc) (C:=Tryz.checked) false ⟨#[],#[.slice none 0 0,.agg #[.int .i64 0,.int .i64 0,.int .i64 0,.int .i64 0,.int .i64 0,.bool false,.int .i64 0,.int .i64 0,.int .i64 0,.int .i64 0,.int .i64 0,.slice none 0 0,.string ⟨#[]⟩],.agg #[.int .u8 0,.slice none 0 0,.slice none 0 0,.int .u8 0,.int .u8 0,.int .u8 0,.int .u8 0,.int .u8 0,.int .u8 0,.int .u8 0,.int .u8 0,.int .u8 0,.int .u8 0,.bool false]],[]⟩ 8 (by kernel_rfl) (by kernel_rfl) (by kernel_rfl) (by kernel_rfl)) ?_
 ·rw[Tryz.params5] at h
  match ds,h with
  |[d0,d1,d2],_=>rfl
 ·intro W base args ds ps hval hA hwt
  rw[Tryz.params5] at hA hval hwt
  obtain⟨v0,v1,v2,d0,d1,d2,p0,p1,p2,rfl,rfl,rfl,h0,h1,h2⟩:=trodAll_three hA
  obtain⟨os0,ho0⟩:=zeL (hval 0 66 v0 rfl rfl) h0 (zfB hwt (j:=0) rfl rfl)
  obtain⟨e1,rfl⟩:=ed_in (hval 1 52 v1 rfl rfl)
  obtain⟨w2,g2,o2,rfl,hw2,hg2,hq2⟩:=zpx (hval 2 27 v2 rfl rfl) h2
  exact zjK (zdQ W) os0 _ ho0 e1 w2 hw2 g2 o2 hg2 hq2
theorem topdevices_holds:Rows.TopDevicesShowOneCalendarSaid :=
 OpenClaim.holds_of_wide 5 Tryz.f5 rfl rfl rfl rfl rfl rfl rfl ⟨rfl,rfl,rfl,rfl,rfl⟩ rfl rfl rfl rfl rfl (by kernel_rfl) Tryz.func5 zcL
  (of_decide_eq_true (by kernel_rfl)) (by unfold Func.isWrapper;first|(rw[if_pos (by decide +kernel)];kernel_rfl)|(rw[if_neg (by decide +kernel)];exact⟨rfl,rfl⟩))
  (fun os started H enc _=>zbJ os started H enc)
#print axioms topdevices_holds
end Go.Proofs.YtdgndfabdmecmaaGreat
