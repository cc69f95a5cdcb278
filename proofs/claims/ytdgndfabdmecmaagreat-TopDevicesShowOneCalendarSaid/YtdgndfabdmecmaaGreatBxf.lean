/- Lemmas of our own, no statement of the seat; the last one of the claim's texts proves the law. -/
import Derived.RangeFuncNested
import Derived.RangeFuncBound
import Derived.RangeFuncCalls
import Derived.RangeFuncLeaves
import Derived.Shelf.Abstract
import Derived.Shelf.RegionOpen
import Derived.WalkKit
import Derived.OwnWalkIn
import Derived.TacticsInMore
import Derived.LoopNIn
import Derived.LoopIn
import Derived.Ground.SlsfProg
import Derived.Test.YtdgndfabdmecmaaGreatBxe
import Derived.Test.YtdgndfabdmecmaaGreatBxc
open Nat renaming reduceEqDiff → Qa, reduceAdd → Qb, reduceMul → Qc, reduceLeDiff → Qd, reduceLT → Qe, reduceBNe → Qf
open Int renaming reduceLE → Ja, reduceLT → Jb, reduceToNat → Jc, cast_ofNat_Int → Jd, reduceEq → Je, reduceNe → Jf
set_option linter.unusedSimpArgs false
set_option linter.unusedVariables false
namespace Go.Proofs.YtdgndfabdmecmaaGreat
instance drew0:Go.Proofs.YtdgndfabdmecmaaGreat.Vc.Drew:=⟨0⟩
open Go.RowKit Go.Shelf Go.Proofs.YtdgndfabdmecmaaGreat.Vc
attribute [local go_sem] Oper.semAt_some
def rv(r:Rule):Value := .agg #[.int .i64 r.1,.int .i64 r.2.1,.bool r.2.2]
def za5(zs:List Rule)(k:Nat):Int×Rule:=((zs.length-1-k:Int),zs[zs.length-1-k]?.getD (0,0,false))
def upto{α:Type}(f:Nat→α)(k:Nat):List α:=(List.range k).map f
theorem zfm{α:Type}(f:Nat→α)(k:Nat):upto f (k+1)=upto f k++[f k]:=by simp[upto,List.range_succ]
theorem zix{α:Type}(f:Nat→α)(k:Nat):(upto f k).length=k:=by simp[upto]
set_option maxRecDepth 100000 in
set_option maxHeartbeats 2000000 in
theorem znU(F:Fence)(n:Nat)(hf:F.fn 216)(hro:F.round=none)(hn:1≤n)(l Bs n₀ b off cap:Nat)(zs:List Rule)(hreach:zs.length*24≤140737488351232)(hb:zs≠[]→b<n₀)(hBn:Bs<n₀)(a:Option Addr)(ha:zs≠[]→a=some ⟨b,off,none⟩)
  (J Jx:List (Int×Rule)→World→Prop)
  (hY:∀pre x W,J pre W→pre.length<zs.length→YieldAt F (n-1) Tryz.prog l #[.int .i64 x.1,rv x.2] W fun e W' =>
   (e = .returned (.bool true)∧J (pre++[x]) W'∧Below n₀ W W')∨(e = .returned (.bool false)∧Jx (pre++[x]) W'))
  (W:World) (hBs:W.cell? ⟨Bs,0,none⟩=some (.slice a zs.length cap)) (hc:∀j,j<zs.length→∀i,i<3→W.cell? ⟨b,off+j*3+i,none⟩=(za0 (zs[j]?.getD (0,0,false)))[i]?) (h0:J [] W) :
  CallsIn F n Tryz.prog 216 #[.func (.yield l) #[] #[],.pointer (some ⟨Bs,0,none⟩)] W fun e W'=>(∃v,e = .returned v) ∧
   ((∃ys,ys=upto (za5 zs) zs.length∧J ys W')∨(∃pre,(∃k,k≤zs.length∧pre=upto (za5 zs) k)∧Jx pre W')):=by
 refine callsIn_of_wp Tryz.func216 rfl hf ?_ hro
 simp only[Tryz.ntmps216,List.size_toArray,List.length_cons,List.length_nil,Qb,Nat.reduceSub,Array.replicate_succ,Array.replicate_zero,List.push_toArray,List.append_toArray,List.nil_append,List.cons_append]
 gi_wp2
 gi_loopw [3] (fun i wr=>∃k:Nat,k≤zs.length∧i = .int .i64 (zs.length-1-k:Int)∧J (upto (za5 zs) k) wr∧Below n₀ W wr)
  (fun i _=>(intOf i+1).toNat)
 case atStart=>exact⟨0,Nat.zero_le _,by simp,h0,Below.refl _ _⟩
 case round =>
  obtain⟨k,hk,rfl,hJs,hnx⟩:=hrel
  have hB:=(hnx.cell (p:=⟨Bs,0,none⟩) hBn).trans hBs
  by_cases hlt:k<zs.length
  ·have hne:zs≠[]:=by rintro rfl;simp at hlt
   have hj:zs.length-1-k<zs.length:=by omega
   obtain rfl:=ha hne
   have hcx:∀i,i<3→wr.cell? ⟨b,off+(zs.length-1-k)*3+i,none⟩=(za0 (zs[zs.length-1-k]?.getD (0,0,false)))[i]?:=fun i hi=>(hnx.cell (p:=⟨b,off+(zs.length-1-k)*3+i,none⟩) (hb hne)).trans (hc _ hj i hi)
   have hc0:=hcx 0 (by omega)
   have hc1:=hcx 1 (by omega)
   have hc2:=hcx 2 (by omega)
   obtain⟨fn,tmps,assign,body,hy,hR⟩:=hY _ (za5 zs k) wr hJs (by rw[zix];exact hlt)
   simp only[za5,rv] at hy
   simp only[za0,List.getElem?_cons_zero,List.getElem?_cons_succ,Nat.add_zero] at hc0 hc1 hc2
   generalize zs[zs.length-1-k]?.getD (0,0,false)=r at hy hc0 hc1 hc2
   obtain⟨ev,rest,yes⟩:=r
   dsimp only at hy hc0 hc1 hc2
   clear hcx
   gi_wp2
   refine hR.mono ?_
   rintro e W3 (⟨rfl,hJ3,hk3⟩|⟨rfl,hJx3⟩)
   ·gi_wp2
    go_roundw
    case rel=>exact⟨k+1,by omega,by congr 1;omega,by rw[zfm];exact hJ3,hnx.trans hk3⟩
    case measure=>simp[intOf];omega
   ·gi_wp2
    refine bodyPost_ret (results_none rfl _ _ _) rfl ?_
    exact⟨⟨_,rfl⟩,.inr ⟨_,⟨k+1,by omega,(zfm _ _).symm⟩,hJx3⟩⟩
  ·obtain rfl:k=zs.length:=by omega
   gi_wp2
   go_end0
   exact⟨⟨_,rfl⟩,.inl ⟨_,rfl,hJs⟩⟩
set_option maxHeartbeats 1000000 in
theorem zpY(F:Fence)(n:Nat)(hf:F.fn 213)(hro:F.round=none)(a:Option Addr)(len cap:Nat)(w:World) :
  CallsIn F n Tryz.prog 213 #[.slice a len cap] w fun e w'=>e = .returned (.func (.func 216) #[] #[.pointer (some ⟨w.heap.size,0,none⟩)])∧w'=w.alloc (.cells #[.slice a len cap] 37):=by
 refine callsIn_of_wp Tryz.func213 rfl hf ?_ hro
 simp only[Tryz.ntmps213,List.size_toArray,List.length_cons,List.length_nil,Qb,Nat.reduceSub,Array.replicate_succ,Array.replicate_zero,List.push_toArray,List.append_toArray,List.nil_append,List.cons_append]
 gi_wp2
 go_ret
 exact⟨rfl,rfl⟩
theorem zkf(F:Fence)(n:Nat)(hf:F.fn 216)(hro:F.round=none)(hn:1≤n)(Bs n₀ b off cap:Nat)(zs:List Rule)(hreach:zs.length*24≤140737488351232)(w:World)(hn₀:n₀≤w.heap.size)(hb:zs≠[]→b<n₀)(hBn:Bs<n₀)
  (a:Option Addr) (ha:zs≠[]→a=some ⟨b,off,none⟩) (hBs:w.cell? ⟨Bs,0,none⟩=some (.slice a zs.length cap)) (hc:∀j,j<zs.length→∀i,i<3→w.cell? ⟨b,off+j*3+i,none⟩=(za0 (zs[j]?.getD (0,0,false)))[i]?) :
  SeqStopsK F n Tryz.prog 216 #[.pointer (some ⟨Bs,0,none⟩)] (fun x:Int×Rule => #[Value.int .i64 x.1,rv x.2]) (Below n₀) (fun ys=>ys=upto (za5 zs) zs.length)
   (fun pre=>∃k,k≤zs.length∧pre=upto (za5 zs) k) zs.length w:=fun l J Jx W hW _ _ hY h0 =>
 znU F n hf hro hn l Bs n₀ b off cap zs hreach hb hBn a ha J Jx hY W ((hW.cell (p:=⟨Bs,0,none⟩) (Nat.lt_of_lt_of_le hBn hn₀)).trans hBs)
  (fun j hj i hi=>(hW.cell (p:=⟨b,off+j*3+i,none⟩) (Nat.lt_of_lt_of_le (hb (by rintro rfl;simp at hj)) hn₀)).trans (hc j hj i hi)) h0
def modv(a b:Int):Int:=if b<1 then 0 else if a.tmod b<0 then IntKind.i64.wrap (a.tmod b+b) else a.tmod b
theorem zpZ{a b:Int}(hb:1≤b)(hb2:I64 b):modv a b=a%b:=by
 have h1:=zd8 a b hb
 have h2:=zhd a b hb
 unfold I64 at *
 unfold modv
 rw[if_neg (by omega)]
 split
 ·rename_i h
  rw[if_pos h] at h1
  have:=W.in64 (r:=a.tmod b+b) (by omega)
  unfold W at this
  rw[←this,h1]
 ·rename_i h
  rw[if_neg h] at h1;exact h1
theorem nmodw(a b:Int)(hb:1≤b)(R:RO):zaa Tryz.prog 214 [.int .i64 a,.int .i64 b] R fun _ v=>v = .int .i64 (modv a b):=by
 refine zac mix Tryz.func214 comp214 (by simp[Tryz.ntmps214]) ?_;simp only[go_sem,↓reduceIte,Qa,reduceCtorEq,vc214,rs214]
 unfold modv
 rw[if_neg (by omega)]
 refine⟨by omega,fun h=>⟨_,W.mk _ _,by rw[if_pos h]⟩,fun h=>by rw[if_neg h]⟩
theorem cmodw(a b:Int)(R:RO):zaa Tryz.prog 198 [.int .i64 a,.int .i64 b] R fun _ v=>v = .int .i64 (modv a b):=by
 have hM:zaa Tryz.prog 209 [.int .i64 a,.int .i64 b] R fun _ v=>∃e,v = .tuple #[.int .i64 (modv a b),.int .i64 e]:=by
  refine zac mix Tryz.func209 comp209 (by simp[Tryz.ntmps209]) ?_;simp only[go_sem,↓reduceIte,Qa,reduceCtorEq,vc209,rs209]
  refine⟨fun h=>⟨_,by simp[modv,h];rfl⟩,fun h=>vcall (nmodw a b (by omega) R) ?_⟩
  rintro R' v hle rfl
  try simp only[go_sem,↓reduceIte,Qa]
  exact⟨_,rfl⟩
 refine zac mix Tryz.func198 comp198 (by simp[Tryz.ntmps198]) ?_;simp only[go_sem,↓reduceIte,Qa,reduceCtorEq,vc198,rs198]
 refine vcall hM ?_
 rintro R' v hle ⟨e,rfl⟩
 try simp only[go_sem,↓reduceIte,Qa]
def hit(y:Int)(r:Rule):Prop:=modv y r.1=r.2.1
instance (y:Int) (r:Rule):Decidable (hit y r):=by unfold hit;infer_instance
theorem zp0(a b:Int)(n:Nat)(W:World):CallsIn Fence.wide n Tryz.prog 198 #[.int .i64 a,.int .i64 b] W fun e W'=>e = .returned (.int .i64 (modv a b))∧Ext W W':=by
 refine callsIn_wide.2 ?_
 have h:=cmodw a b (fun _ _=>False) W (fun _ _ h=>h.elim)
 refine Calls.mono h ?_
 rintro e w' ⟨v,R',rfl,_,_,hext,rfl⟩
 exact⟨rfl,hext⟩
theorem Boxed.ext{W W':World}{B:Nat}{t:TypeId}{v:Value}(h:Boxed W B t v)(he:Ext W W'):Boxed W' B t v:=(he.block B h.lt).trans h
theorem zda{W W':World}(he:Ext W W'):KeepsOthers W W':=⟨he.size,fun k o hk _=>(he.block k (Array.getElem?_eq_some_iff.1 hk).1).trans hk⟩
set_option maxRecDepth 100000 in
set_option maxHeartbeats 4000000 in
theorem zp1(n:Nat)(hn:3≤n)(y:Int)(hy:I64 y)(e l0:Int)(sm st:Value)(b off cap:Nat)(a:Option Addr)(zs:List Rule)(hbd:∀r∈zs,I64 r.1∧I64 r.2.1)(hreach:zs.length*24≤140737488351232)(w:World)(hb:zs≠[]→b<w.heap.size)
  (ha:zs≠[]→a=some ⟨b,off,none⟩) (hc:∀j,j<zs.length→∀i,i<3→w.cell? ⟨b,off+j*3+i,none⟩=(za0 (zs[j]?.getD (0,0,false)))[i]?) :
  CallsIn Fence.wide n Tryz.prog 208 #[.agg #[.int .i64 e,sm,.int .i64 l0,.slice a zs.length cap,st],.int .i64 y] w fun e W' =>
   ((e = .returned (.bool false)∧∀r∈zs,¬ hit y r)∨(∃k:Nat,k<zs.length∧e = .returned (.bool (za5 zs k).2.2.2)∧hit y (za5 zs k).2∧∀j,j<k→¬ hit y (za5 zs j).2))∧Below w.heap.size w W':=by
 have h1:1≤n:=by omega
 refine callsIn_of_wp_marks Tryz.func208 rfl trivial ?_ rfl
 simp only[Tryz.ntmps208,List.size_toArray,List.length_cons,List.length_nil,Qb,Nat.reduceSub,Array.replicate_succ,Array.replicate_zero,List.push_toArray,List.append_toArray,List.nil_append,List.cons_append]
 gi_wp2_with (refine⟨trivial,?_⟩;gi_at_call 213;refine(zpY Fence.wide (n-1) trivial rfl _ _ _ _).mono ?_;rintro e w' ⟨rfl,rfl⟩)
 have bY:=((Boxed.new (w.alloc (.cells #[.int .i64 e,sm,.int .i64 l0,.slice a zs.length cap,st] 250)) 3 (.int .i64 y)).alloc (.cells #[.bool false] 4)).alloc (.cells #[.slice a zs.length cap] 37)
 have bR:=(Boxed.new ((w.alloc (.cells #[.int .i64 e,sm,.int .i64 l0,.slice a zs.length cap,st] 250)).alloc (.cells #[.int .i64 y] 3)) 4 (.bool false)).alloc (.cells #[.slice a zs.length cap] 37)
 have bS:=Boxed.new (((w.alloc (.cells #[.int .i64 e,sm,.int .i64 l0,.slice a zs.length cap,st] 250)).alloc (.cells #[.int .i64 y] 3)).alloc (.cells #[.bool false] 4)) 37 (.slice a zs.length cap)
 simp only[World.size_alloc] at bY bR bS
 have hB0:Below w.heap.size w ((((w.alloc (.cells #[.int .i64 e,sm,.int .i64 l0,.slice a zs.length cap,st] 250)).alloc (.cells #[.int .i64 y] 3)).alloc (.cells #[.bool false] 4)).alloc (.cells #[.slice a zs.length cap] 37)) :=
  ((((Below.refl _ w).alloc (Nat.le_refl _) _).alloc (by simp) _).alloc (by simp;omega) _).alloc (by simp;omega) _
 have hsz:((((w.alloc (.cells #[.int .i64 e,sm,.int .i64 l0,.slice a zs.length cap,st] 250)).alloc (.cells #[.int .i64 y] 3)).alloc (.cells #[.bool false] 4)).alloc (.cells #[.slice a zs.length cap] 37)).heap.size=w.heap.size+4:=by simp
 obtain⟨W0,hW0⟩:∃W0,(((w.alloc (.cells #[.int .i64 e,sm,.int .i64 l0,.slice a zs.length cap,st] 250)).alloc (.cells #[.int .i64 y] 3)).alloc (.cells #[.bool false] 4)).alloc (.cells #[.slice a zs.length cap] 37)=W0:=⟨_,rfl⟩
 rw[hW0] at bY bR bS hB0 hsz ⊢
 clear hW0
 refine wpIn_rangeFunc_ownH (P:=Tryz.prog) (F:=Fence.wide) (n:=n) rfl h1 (gf:=216) (lb := #[.pointer (some ⟨w.heap.size+1+1+1,0,none⟩)]) rfl trivial (enters_of Tryz.func216 (by kernel_rfl) rfl)
  (zkf Fence.wide (n-1) trivial rfl (by omega) (w.heap.size+1+1+1) (w.heap.size+4) b off cap zs hreach W0 (by omega) (fun h=>Nat.lt_of_lt_of_le (hb h) (by omega)) (by omega) a ha bS.cell (fun j hj i hi=>(hB0.cell (p:=⟨b,off+j*3+i,none⟩) (hb (by rintro rfl;simp at hj))).trans (hc j hj i hi)))
  belowK_t (belowK_b (by omega)) (Below.refl _ _) (fun _=>rfl)
  (fun pre W=>(((∀p∈pre,¬ hit y p.2)∧w.heap.size+4≤W.heap.size)∧Boxed W (w.heap.size+1) 3 (.int .i64 y)∧Boxed W (w.heap.size+1+1) 4 (.bool false))∧Below w.heap.size w W)
  (fun c pre W=>(c = .ret∧∃ini last,pre=ini++[last]∧(∀p∈ini,¬ hit y p.2)∧hit y last.2∧Boxed W (w.heap.size+1+1) 4 (.bool last.2.2.2))∧Below w.heap.size w W)
  ?hI ?hIx ⟨⟨⟨by simp,by omega⟩,bY,bR⟩,hB0⟩
  (fun x a' W=>∃Bx,w.heap.size+4≤Bx∧(∀i v,(za0 x.2)[i]?=some v→W.cell? ⟨Bx,i,none⟩=some v)∧a'={ tmps := #[.agg #[.int .i64 e,sm,.int .i64 l0,.slice a zs.length cap,st],.int .i64 y,.pointer (some ⟨w.heap.size,0,none⟩),.pointer (some ⟨w.heap.size+1,0,none⟩),.pointer (some ⟨w.heap.size+1+1,0,none⟩),undef,.pointer (some ⟨Bx,0,none⟩),.pointer (some ⟨w.heap.size,0,none⟩),.pointer (some ⟨w.heap.size,3,none⟩),.slice a zs.length cap,.func (.func 216) #[] #[.pointer (some ⟨w.heap.size+1+1+1,0,none⟩)],.int .i64 x.1,rv x.2,undef,undef,undef,undef,undef,undef,undef,undef,undef],defers:=[] })
  ?hAx ?assign ?body ?done ?stop
 case hI=>exact OwnFrom.and (OwnFrom.and (fun s A B row hs hg hr=>⟨hs.1,Nat.le_trans hs.2 hg.size⟩) (OwnFrom.and (Own.from (boxed_own _ _ _) _) (Own.from (boxed_own _ _ _) _))) (ownFrom_below (Nat.le_refl _) (by omega))
 case hIx =>
  exact fun c=>OwnFrom.and (Own.from (fun s A B row hs hg hr=>by
   obtain⟨hc,ini,last,e1,e2,e3,e4⟩:=hs
   exact⟨hc,ini,last,e1,e2,e3,boxed_own _ _ (fun(_:Unit)=>Value.bool last.2.2.2) () A B row e4 hg hr⟩) _) (ownFrom_below (Nat.le_refl _) (by omega))
 case hAx =>
  exact fun x a' _ X Y row hs hg hr=>by
   obtain⟨Bx,h1,h2,h3⟩:=hs
   exact⟨Bx,h1,fun i v hi=>cell_kept (h2 i v hi) hg (fun r e=>(hr r e).2),h3⟩
 case assign =>
  rintro l pre x W K ⟨⟨⟨hp,hs1⟩,bY1,bR1⟩,hB1⟩ hK
  obtain⟨xi,ev,rest,yes⟩:=x
  simp only[rv] at hK ⊢
  gi_wp2
  exact hK _ _ ((KeepsOthers.alloc _ _).from _) ((Below.refl _ W).alloc hs1 _) ⟨⟨⟨hp,by simp;omega⟩,bY1.alloc _,bR1.alloc _⟩,hB1.alloc hB1.size _⟩
   ⟨W.heap.size,hs1,fun i v hi=>by
    have hlt:i<3:=by have:=(List.getElem?_eq_some_iff.1 hi).1;simpa[za0] using this
    have hh:=zcX W (.cells #[Value.int .i64 ev,Value.int .i64 rest,Value.bool yes] 93)
    simp only[World.cell?,hh,Option.isSome_none,Bool.false_eq_true,if_false]
    simpa[za0] using hi,rfl⟩
 case body =>
  rintro l pre x a' W hl ⟨r,hr⟩ ⟨⟨⟨hp,hs1⟩,bY1,bR1⟩,hB1⟩ ⟨Bx,hBx,hcx,rfl⟩ hlt
  obtain⟨xi,ev,rest,yes⟩:=x
  have c0:=hcx 0 _ rfl
  have c1:=hcx 1 _ rfl
  have c2:=hcx 2 _ rfl
  clear hcx
  dsimp only at c0 c1 c2
  simp only[rv]
  have cY:=bY1.cell
  have hBlt:Bx<W.heap.size:=World.block_lt_of_cell? W ⟨Bx,0,none⟩ c0
  have hd:1≤n-1-1:=by omega
  have hmx:Tryz.prog.follows .mixedOrders=true:=mix
  gi_wp2
  gi_region_with_o (refine⟨trivial,?_⟩;gi_at_call 198;refine(CallsIn.inRound l (zp0 y ev (n-1-1-1) _)).mono ?_;rintro e w' ⟨rfl,hext⟩;have c1':w'.cell? ⟨Bx,1,none⟩=some (.int .i64 rest):=(hext.cell (p:=⟨Bx,1,none⟩) hBlt).trans c1;have c2':w'.cell? ⟨Bx,2,none⟩=some (.bool yes):=(hext.cell (p:=⟨Bx,2,none⟩) hBlt).trans c2;have he:Ext W w':=Ext.tr (b:=W.drew) ⟨rfl,rfl,rfl,Nat.le_refl _,fun _ _=>rfl,Nat.mul_le_mul_left _ (Nat.le_succ _)⟩ hext;have bR2:=Boxed.ext bR1 he;have cR2:=bR2.cell;have fR2:=bR2.frozen)
  all_goals gi_wp2
  all_goals first
   |exact⟨((zda he).trans (KeepsOthers.setCell _ _ _)).from _,⟨rfl,pre,(xi,ev,rest,yes),rfl,hp,eq_of_beq (show(modv y ev==rest)=true by assumption),bR2.set _⟩,(hB1.trans (Below.mono he.below hB1.size)).setCell (p:=⟨w.heap.size+1+1,0,none⟩) (by dsimp only;omega) _⟩
   |exact⟨(zda he).from _,Below.mono he.below hs1,⟨⟨fun p hp'=>(List.mem_append.1 hp').elim (hp p) (fun e=>by
     have h:(modv y ev==rest)=false:=by assumption
     simp only[List.mem_singleton] at e
     subst e
     exact beq_eq_false_iff_ne.1 h),Nat.le_trans hs1 he.size⟩,Boxed.ext bY1 he,bR2⟩,hB1.trans (Below.mono he.below hB1.size)⟩
 case done =>
  rintro D ys W hD rfl ⟨⟨⟨hp,hs1⟩,bY1,bR1⟩,hB1⟩ hK
  have cR:=bR1.cell
  have fR:=bR1.frozen
  gi_wp2
  have hK':=(KeepsOthers.setCell W ⟨w.heap.size+1+1,0,none⟩ (.bool false)).same D _ hK rfl
  refine⟨by simp,.inl ⟨_,_,rfl,run_takeDeferred hK',?_⟩⟩
  have hc5:=cell_kept (World.cell?_setCell_same' W ⟨w.heap.size+1+1,0,none⟩ (.bool false) (by rw[cR];rfl)) (grownBy_putObj' _ D (.deferred none)) (fun r e=>by cases e;exact⟨_,hK',rfl⟩)
  refine⟨.bool false,?_,.inl ⟨rfl,fun r hr=>?_⟩,(hB1.setCell (p:=⟨w.heap.size+1+1,0,none⟩) (by dsimp only;omega) _).trans (belowK_b (w:=w) (Nat.le_refl _) _ D _ _ (by omega) hK' rfl rfl)⟩
  ·simp[results,Tryz.f208,go_sem,hc5]
  ·obtain⟨i,hi,rfl⟩:=List.getElem_of_mem hr
   have:=hp (za5 zs (zs.length-1-i)) (by simp only[upto,List.mem_map,List.mem_range];exact⟨_,by omega,rfl⟩)
   simpa[za5,show zs.length-1-(zs.length-1-i)=i by omega,hi] using this
 case stop =>
  rintro D c pre W hD ⟨k,hk,rfl⟩ ⟨⟨rfl,ini,last,e1,e2,e3,bR1⟩,hB1⟩ hK
  gi_wp2
  refine⟨by simp,.inl ⟨_,_,rfl,run_takeDeferred hK,?_⟩⟩
  have hc5:=cell_kept bR1.cell (grownBy_putObj' _ D (.deferred none)) (fun r e=>by cases e;exact⟨_,hK,rfl⟩)
  obtain⟨k',rfl⟩:∃k',k=k'+1:=by
   cases k with
   |zero=>simp[upto] at e1
   |succ k'=>exact⟨k',rfl⟩
  rw[zfm] at e1
  obtain⟨rfl,e5⟩:=List.append_inj' e1 rfl
  obtain rfl:za5 zs k'=last:=by simpa using e5
  refine⟨.bool (za5 zs k').2.2.2,?_,.inr ⟨k',by omega,rfl,e3,fun j hj=>e2 (za5 zs j) (by simp only[upto,List.mem_map,List.mem_range];exact⟨j,hj,rfl⟩)⟩,hB1.trans (belowK_b (w:=w) (Nat.le_refl _) W D _ _ (by omega) hK rfl rfl)⟩
  simp[results,Tryz.f208,go_sem,hc5]
end Go.Proofs.YtdgndfabdmecmaaGreat
namespace Go.Proofs.YtdgndfabdmecmaaGreat
open Go.RowKit Go.Proofs.YtdgndfabdmecmaaGreat.Vc
theorem zdN(rs:List Rule)(r:Rule)(y:Int):zbF (rs++[r]) y=if y%r.1=r.2.1 then r.2.2 else zbF rs y:=by
 simp[zbF,List.foldl_append]
theorem zhB{α:Type}(l:List α)(k:Nat)(hk:k<l.length):l.take (k+1)=l.take k++[l[k]]:=by
 rw[List.take_add_one,List.getElem?_eq_getElem hk];rfl
theorem ziy{rs:List Rule}{y:Int}(h:∀r∈rs,¬ y%r.1=r.2.1):zbF rs y=false:=by
 unfold zbF
 generalize hacc:false=acc
 rw[←hacc]
 clear hacc
 suffices ∀acc:Bool,rs.foldl (fun acc r=>if y%r.1=r.2.1 then r.2.2 else acc) acc=acc from this false
 induction rs with
 |nil=>intro acc;rfl
 |cons r rs ih =>
  intro acc
  rw[List.foldl_cons,if_neg (h r (by simp))]
  exact ih (fun r hr=>h r (by simp[hr])) acc
theorem zfn{rs:List Rule}{y:Int}:∀k:Nat,k≤rs.length→(∀j,j<k→∀r,rs[rs.length-1-j]?=some r→¬ y%r.1=r.2.1)→zbF rs y=zbF (rs.take (rs.length-k)) y
 |0,_,_=>by simp
 |k+1,hk,h=>by
  rw[zfn k (by omega) (fun j hj=>h j (by omega))]
  have h1:rs.length-1-k<rs.length:=by omega
  have h2:=h k (by omega) rs[rs.length-1-k] (List.getElem?_eq_getElem h1)
  rw[show rs.length-k=rs.length-1-k+1 by omega,zhB _ _ h1,zdN,if_neg h2]
  congr 2
  omega
theorem zlM{y:Int}{r:Rule}(h:zbE r):hit y r↔y%r.1=r.2.1:=by
 unfold hit
 rw[zpZ h.1 (by have:=h.bd;unfold I64;omega)]
theorem cLeap(c:Cal)(sm sr st:Value)(R:RO)(h:RulesIn R sr c.rules)(hok:∀r∈c.rules,zbE r)(hn:c.rules.length≤1000)(e l0:Int)(y:Int)(hy:I64 y) :
  zaa Tryz.prog 208 [.agg #[.int .i64 e,sm,.int .i64 l0,sr,st],.int .i64 y] R fun _ v=>v = .bool (zbF c.rules y):=by
 intro w hR
 obtain⟨a,cap,rfl,hc,hf⟩:=h.form
 obtain⟨b,off,hb,ha,hcell⟩:∃b off,(c.rules≠[]→b<w.heap.size)∧(c.rules≠[]→a=some ⟨b,off,none⟩)∧∀j,j<c.rules.length→∀i,i<3→w.cell? ⟨b,off+j*3+i,none⟩=(za0 (c.rules[j]?.getD (0,0,false)))[i]?:=by
  by_cases hne:c.rules=[]
  ·exact⟨0,0,fun h=>absurd hne h,fun h=>absurd hne h,fun j hj=>by rw[hne] at hj;simp at hj⟩
  ·have h0:0<c.rules.length:=List.length_pos_iff.2 hne
   obtain⟨ad,rfl,hR0⟩:=hf 0 h0
   have hc0:=hR _ _ (hR0 0 _ rfl)
   have hsp:ad.spot=none:=by
    have e:(ad.add (0*3)).add 0=ad:=by simp[Addr.add]
    rw[e] at hc0
    cases hs:ad.spot with
    |none=>rfl
    |some x =>
     exfalso
     unfold World.cell? at hc0
     simp only[hs,Option.isSome_some,if_true] at hc0
     split at hc0
     ·cases hc0
     ·cases hc0
   obtain⟨b,off,sp⟩:=ad
   simp only at hsp
   subst hsp
   refine⟨b,off,fun _=>?_,fun _=>rfl,fun j hj i hi=>?_⟩
   ·have:=World.block_lt_of_cell? w _ hc0
    simpa[Addr.add_lit] using this
   ·obtain⟨ad',e',hR'⟩:=hf j hj
    cases e'
    have hlen:i<(za0 c.rules[j]).length:=by simpa[za0] using hi
    have hg:(za0 c.rules[j])[i]?=some (za0 c.rules[j])[i]:=List.getElem?_eq_getElem hlen
    have h1:=hR _ _ (hR' i _ hg)
    rw[Addr.add_lit,Addr.add_lit] at h1
    rw[List.getElem?_eq_getElem hj,Option.getD_some,hg]
    exact h1
 have hl:=zp1 5 (by omega) y hy e l0 sm st b off cap a c.rules (fun r hr=>by have:=hok r hr;have:=this.bd;simp only[zbE] at *;unfold I64;omega) (by omega) w hb ha hcell
 refine Calls.mono (callsIn_wide.1 hl) ?_
 rintro e w' ⟨h1,hB⟩
 refine⟨.bool (zbF c.rules y),R,?_,RO.le_refl R,fun a v ha=>⟨by rw[hB.cell (World.block_lt_of_cell? w a (hR a v ha))];exact hR a v ha,.inl ha⟩,⟨hB.1,hB.2,hB.3,hB.4,hB.5,(by simp:0*w.drawn≤0*w'.drawn)⟩,rfl⟩
 rcases h1 with⟨rfl,h1⟩|⟨k,hk,rfl,h1,h2⟩
 ·rw[ziy fun r hr=>by rw[←zlM (hok r hr)];exact h1 r hr]
 ·have hlt:c.rules.length-1-k<c.rules.length:=by omega
  have e1:=zfn (rs:=c.rules) (y:=y) k (by omega) (fun j hj r hr=>by
   have:=h2 j hj
   simp only[za5] at this
   rw[hr,Option.getD_some,zlM (hok r (List.mem_of_getElem? hr))] at this
   exact this)
  rw[e1,show c.rules.length-k=c.rules.length-1-k+1 by omega,zhB _ _ hlt,zdN]
  simp only[za5,List.getElem?_eq_getElem hlt,Option.getD_some] at h1 ⊢
  rw[zlM (hok _ (List.getElem_mem hlt))] at h1
  rw[if_pos h1]
abbrev av(c:Cal)(sm sr st:Value):Value := .agg #[.int .i64 c.epoch,sm,.int .i64 c.leap,sr,st]
theorem zfo{c:Cal}(h:c.valid):(∀r∈c.rules,zbE r)∧c.rules.length≤1000:=⟨fun r hr=>(h.per.2.2 r hr).1,by have:=h.2.2.2.1;omega⟩
theorem zpo(c:Cal)(hv:c.valid)(sm sr st:Value)(R:RO)(h:CalIn R c sm sr)(y:Int)(hy:I64 y)(m:Nat)(hm:m<c.months.length) :
  zaa Tryz.prog 197 [av c sm sr st,.int .i64 y,.int .i64 (m+1:Int)] R fun _ v=>v = .int .i64 (c.mlen y m):=by
 obtain⟨am,cm,rfl,hcm,hfm⟩:=h.m.form
 obtain⟨ad,had,hR⟩:=hfm m hm
 have hin:=hv.2.2.2.2.2.1 _ (List.getElem_mem hm)
 have hml:=hv.2.1.2
 have hl:c.mlen y m=c.months[m]+if(m:Int)=c.leap∧zbF c.rules y=true then 1 else 0:=by
  unfold Cal.mlen
  rw[List.getD_eq_getElem?_getD,List.getElem?_eq_getElem hm,Option.getD_some]
 refine zac mix Tryz.func197 comp197 (by simp[Tryz.ntmps197]) ?_;simp only[go_sem,↓reduceIte,Qa,vc197,rs197]
 refine⟨_,W.in64 (by omega),?_⟩
 rw[show(m:Int)+1-1=m by omega]
 try simp only[go_sem]
 refine⟨by omega,vat ad had ?_⟩
 try simp only[go_sem,↓reduceIte]
 refine vload _ hR ?_
 try simp only[go_sem,↓reduceIte,Qa,Qb]
 refine⟨_,W.in64 (by omega),?_⟩
 rw[show(m:Int)+1-1=m by omega]
 try simp only[go_sem,↓reduceIte,Qa,Qb,Qc,Qd,Qe,Qf,reduceCtorEq]
 refine⟨fun h1=>vcall (cLeap c _ _ _ R h.r (zfo hv).1 (zfo hv).2 _ _ y hy) ?_,fun h1=>?_⟩
 ·rintro R1 v hle rfl
  try simp only[go_sem,↓reduceIte,Qa]
  refine⟨fun h2=>⟨_,W.in64 (by omega),?_⟩,fun h2=>?_⟩
  ·rw[hl,if_pos ⟨h1,h2⟩]
  ·rw[hl,if_neg (fun h3=>by rw[h3.2] at h2;cases h2)];simp
 ·rw[hl,if_neg (fun h3=>h1 h3.1)];simp
theorem cYear(c:Cal)(hv:c.valid)(sm sr st:Value)(R:RO)(h:CalIn R c sm sr)(y:Int)(hy:I64 y) :
  zaa Tryz.prog 189 [av c sm sr st,.int .i64 y] R fun _ v=>v = .int .i64 (c.ylen y):=by
 have hml:=hv.2.1.2
 obtain⟨am,cm,rfl,hcm,hfm⟩:=h.m.form
 refine zac mix Tryz.func189 comp189 (by simp[Tryz.ntmps189]) ?_;simp only[go_sem,↓reduceIte,Qa,vc189,rs189]
 refine zaj Nat (fun k=>[(10,.val (.int .i64 c.months.length)),(11,.val (.int .i64 k)),(5,.val (.int .i64 (sumTo (c.mlen y) k))),(2,.loc 0 0),(1,.val (.int .i64 y))])
  (fun _=>[.box [.val (.int .i64 c.epoch),.val (.slice am c.months.length cm),.val (.int .i64 c.leap),.val sr,.val st]]) (fun k _=>k≤c.months.length) (fun k=>c.months.length-k) 0 ?_ rfl ?_ ?_
 ·(try simp only[go_sem,↓reduceIte,Qa])<;>(repeat' (first|rfl|trivial|constructor|(intro h;exact absurd rfl h)))
 ·omega
 ·rintro k env R1 hle hE hk
  have hs:=zcn (f:=c.mlen y) (a:=1) (b:=41) k (fun i hi=>hv.mlen_bd y (by omega))
  (simp only[go_sem] at hE;obtain⟨e10,e11,e5,e2,e1⟩:=hE;simp only[go_sem,↓reduceIte,Qa,Qb,e10,e11,e5,e2,e1];dsimp only at *)
  refine⟨fun hlt=>⟨_,W.in64 (by omega),?_⟩,fun hge=>?_⟩
  ·refine vcall (zpo c hv _ _ _ R1 (h.mono hle) y hy k (by omega)) ?_
   rintro R2 v hle2 rfl
   simp only[go_sem,↓reduceIte,Qa,Qe,Qf,e10,e11,e2,e1]
   have hb:=hv.mlen_bd y (show k<c.months.length by omega)
   exact⟨_,W.in64 (by omega),_,W.in64 (by omega),k+1,by omega,⟨rfl,rfl⟩,by omega⟩
  ·have:k=c.months.length:=by omega
   subst this
   rfl
def Cal.starts(c:Cal):List Int:=(List.range (c.per.toNat+1)).map c.S
theorem zrg(c:Cal)(hv:c.valid)(sm sr st:Value)(R:RO)(hst:Ints R st c.starts):zaa Tryz.prog 186 [av c sm sr st] R fun _ v=>v = .tuple #[.int .i64 c.per,.int .i64 c.days]:=by
 obtain⟨a,cap,rfl,hc,hf⟩:=hst.form
 have hp:=hv.per.2.1
 have hl:c.starts.length=c.per.toNat+1:=by simp[Cal.starts]
 obtain⟨ad,had,hR⟩:=hf c.per.toNat (by omega)
 refine zac mix Tryz.func186 comp186 (by simp[Tryz.ntmps186]) ?_;simp only[go_sem,↓reduceIte,Qa,vc186,rs186]
 refine⟨_,W.in64 (by omega),?_⟩
 rw[hl,show((c.per.toNat+1:Nat):Int)-1=c.per by omega]
 refine⟨by omega,by omega,vat ad had ?_⟩
 try simp only[go_sem,↓reduceIte]
 refine vload _ hR ?_
 try simp only[go_sem,↓reduceIte,Qa]
 simp[Cal.starts,Cal.days]
theorem Cal.starts_len(c:Cal):c.starts.length=c.per.toNat+1:=by simp[Cal.starts]
theorem Cal.valid.days_bd{c:Cal}(h:c.valid):c.per≤c.days∧c.days≤262400:=by
 have:=h.S_bd c.per.toNat
 have:=h.per.2.1
 unfold Cal.days
 omega
def Cal.scells(c:Cal)(k:Nat):List Value:=((List.range (k+1)).map c.S).map (.int .i64)
theorem Cal.scells_len(c:Cal)(k:Nat):(c.scells k).length=k+1:=by simp[Cal.scells]
theorem Cal.scells_succ(c:Cal)(k:Nat):c.scells k++[.int .i64 (c.S (k+1))]=c.scells (k+1):=by simp[Cal.scells,List.range_succ]
theorem Cal.scells_get(c:Cal)(k:Nat):(c.scells k)[k]?=some (.int .i64 (c.S k)):=by simp[Cal.scells]
def OpenP(c:Cal)(sm sr:Value)(R:RO)(v:Value):Prop :=
 (¬ c.valid∧v = .tuple #[.agg #[.int .i64 0,.slice none 0 0,.int .i64 0,.slice none 0 0,.slice none 0 0],.bool false]) ∨
  (c.valid∧∃a cap,v = .tuple #[av c sm sr (.slice a c.starts.length cap),.bool true]∧Ints R (.slice a c.starts.length cap) c.starts)
theorem cOpen(c:Cal)(sm sr:Value)(R:RO)(h:CalIn R c sm sr):zaa Tryz.prog 185 [cv c sm sr] R fun R' v=>OpenP c sm sr R' v:=by
 obtain⟨am,cm,rfl,hcm,hfm⟩:=h.m.form
 obtain⟨ar,cr,rfl,hcr,hfr⟩:=h.r.form
 refine zac mix Tryz.func185 comp185 (by simp[Tryz.ntmps185]) ?_;simp only[go_sem,↓reduceIte,Qa,Qb,vc185,rs185]
 refine vcall (zjx c _ _ R h) ?_
 rintro R1 v hle rfl
 try simp only[go_sem,↓reduceIte,Qa,Qb]
 refine⟨fun hv=>?_,fun hv=>?_⟩
 ·exact .inl ⟨hv,rfl⟩
 ·have hp:=hv.per
  refine vcall (zlL c.rules _ R1 (h.r.mono hle)) ?_
  rintro R2 v hle2 rfl
  rw[hp.1]
  simp only[go_sem,↓reduceIte,Qa,Qb,Qd,Option.getD_some,Option.isSome_some]
  refine⟨_,W.in64 (by omega),by omega,by omega,by omega,?_⟩
  simp only[go_sem,Int.toNat_one]
  intro b cap R3 hle3 hrow hcap hfresh
  try simp only[go_sem,↓reduceIte,Qa,Qb,Qc,Qd,Qe,Qf,reduceCtorEq]
  refine zaj (Nat×Nat×Nat) (fun x=>[(23,.val (.int .i64 c.per)),(24,.val (.int .i64 x.1)),(6,.loc 3 0),(2,.loc 1 0)])
   (fun x=>[.box [.val (.int .i64 c.epoch),.val (.slice am c.months.length cm),.val (.int .i64 c.leap),.val (.slice ar c.rules.length cr)],
    .box [.val (.int .i64 0),.val (.slice none 0 0),.val (.int .i64 0),.val (.slice none 0 0),.val (.slice none 0 0)],
    .shr x.2.1 x.2.2 3 1 (c.scells x.1),
    .box [.val (.int .i64 c.epoch),.val (.slice am c.months.length cm),.val (.int .i64 c.leap),.val (.slice ar c.rules.length cr),.val (.slice (some ⟨x.2.1,0,none⟩) (x.1+1) x.2.2)]])
   (fun x R=>x.1≤c.per.toNat∧RowIn R x.2.1 (c.scells x.1)∧x.1+1≤x.2.2) (fun x=>c.per.toNat-x.1) (0,b,cap) ?_ rfl ?_ ?_
  ·(try simp only[go_sem,↓reduceIte,Qa,Qb])<;>(repeat' (first|rfl|trivial|constructor|(intro h;exact absurd rfl h)))
  ·exact⟨by omega,hrow,hcap⟩
  ·rintro⟨k,b,cap⟩ env R4 hle4 hE ⟨hk,hrow,hcap⟩
   (simp only[go_sem] at hE;obtain⟨e23,e24,e6,e2⟩:=hE;simp only[go_sem,↓reduceIte,Qa,Qb,e23,e24,e6,e2];dsimp only at *)
   have hlen:=c.scells_len k
   have hS:=hv.S_bd k
   have hS1:c.S (k+1)=c.S k+c.ylen (k+1):=rfl
   refine⟨fun hlt=>⟨by omega,?_⟩,fun hge=>?_⟩
   ·refine vload (.int .i64 (c.S k)) (hrow k _ (c.scells_get k)) ?_
    simp only[go_sem,↓reduceIte,Qa,Qb,e6]
    refine⟨_,W.in64 (by omega),?_⟩
    refine vcall (cYear c hv _ _ _ R4 ((((h.mono hle).mono hle2).mono hle3).mono hle4) (k+1) (by unfold I64;omega)) ?_
    rintro R5 v hle5 rfl
    have hb:=hv.ylen_bd (k+1)
    have hml:=hv.2.1
    simp only[go_sem,↓reduceIte,Qa,Qb]
    refine⟨_,W.in64 (by omega),?_⟩
    rw[←hS1]
    refine vapp 2 (c.scells k) rfl rfl rfl (by omega) (by omega) ?_
    rw[c.scells_succ]
    intro b' cap' R6 hle6 hrow6 hcap6
    rw[c.scells_len] at hcap6
    simp only[go_sem,↓reduceIte,Qa,Qb,Qe,Qf,e23,e24,e6,e2]
    refine⟨_,W.in64 (by omega),(k+1,b',cap'),by dsimp only;omega,⟨rfl,⟨rfl,rfl,rfl⟩,rfl⟩,by dsimp only;omega,hrow6,by dsimp only;omega⟩
   ·have:k=c.per.toNat:=by omega
    subst this
    have:=RowIn.ints (cap:=cap) (xs:=c.starts) hrow (by rw[c.starts_len];omega)
    exact .inr ⟨hv,some ⟨b,0,none⟩,cap,by rw[c.starts_len],this⟩
def leapA(c:Cal)(y:Int):Bool:=decide c.valid&&zbF c.rules y
def mlenA(c:Cal)(y m:Int):Int:=if c.valid∧1≤m∧m≤c.months.length then c.mlen y (m-1).toNat else 0
theorem zhC(c:Cal)(sm sr:Value)(R:RO)(h:CalIn R c sm sr)(y m:Int)(hy:I64 y):zaa Tryz.prog 187 [cv c sm sr,.int .i64 y,.int .i64 m] R fun _ v=>v = .int .i64 (mlenA c y m):=by
 obtain⟨am,cm,rfl,hcm,hfm⟩:=h.m.form
 obtain⟨ar,cr,rfl,hcr,hfr⟩:=h.r.form
 refine zac mix Tryz.func187 comp187 (by simp[Tryz.ntmps187]) ?_;simp only[go_sem,↓reduceIte,Qa,Qb,vc187,rs187]
 refine vcall (zjx c _ _ R h) ?_
 rintro R1 v hle rfl
 try simp only[go_sem,↓reduceIte,Qa,Qb,Qd]
 refine⟨fun hv=>⟨fun h1=>⟨fun h2=>?_,fun h2=>?_⟩,fun h1=>?_⟩,fun hv=>?_⟩
 ·rw[mlenA,if_neg (by omega)]
 ·have hm:=zpo c hv (.slice am c.months.length cm) (.slice ar c.rules.length cr) (.slice none 0 0) R1 (h.mono hle) y hy (m-1).toNat (by omega)
  rw[show(((m-1).toNat:Nat):Int)+1=m by omega] at hm
  refine vcall hm ?_
  rintro R2 v hle2 rfl
  try simp only[go_sem,↓reduceIte]
  rw[mlenA,if_pos ⟨hv,by omega,by omega⟩]
 ·rw[mlenA,if_neg (by omega)]
 ·rw[mlenA,if_neg (fun h=>hv h.1)]
def ylenA(c:Cal)(y:Int):Int:=if c.valid then c.ylen y else 0
theorem ziz(c:Cal)(sm sr:Value)(R:RO)(h:CalIn R c sm sr)(y:Int)(hy:I64 y):zaa Tryz.prog 157 [cv c sm sr,.int .i64 y] R fun _ v=>v = .int .i64 (ylenA c y):=by
 obtain⟨am,cm,rfl,hcm,hfm⟩:=h.m.form
 obtain⟨ar,cr,rfl,hcr,hfr⟩:=h.r.form
 refine zac mix Tryz.func157 comp157 (by simp[Tryz.ntmps157]) ?_;simp only[go_sem,↓reduceIte,Qa,Qb,vc157,rs157]
 refine vcall (zjx c _ _ R h) ?_
 rintro R1 v hle rfl
 try simp only[go_sem,↓reduceIte,Qa,Qb,Qd]
 refine⟨fun hv=>by rw[ylenA,if_neg hv],fun hv=>vcall (cYear c hv _ _ _ R1 (h.mono hle) y hy) ?_⟩
 rintro R2 v hle2 rfl
 try simp only[go_sem,↓reduceIte]
 rw[ylenA,if_pos hv]
def cycA(c:Cal):Value:=if c.valid then .tuple #[.int .i64 c.per,.int .i64 c.days,.int .i64 0] else .tuple #[.int .i64 0,.int .i64 0,.int .i64 1]
theorem zrh(c:Cal)(sm sr:Value)(R:RO)(h:CalIn R c sm sr):zaa Tryz.prog 155 [cv c sm sr] R fun _ v=>v=cycA c:=by
 obtain⟨am,cm,rfl,hcm,hfm⟩:=h.m.form
 obtain⟨ar,cr,rfl,hcr,hfr⟩:=h.r.form
 refine zac mix Tryz.func155 comp155 (by simp[Tryz.ntmps155]) ?_;simp only[go_sem,↓reduceIte,Qa,Qb,vc155,rs155]
 refine vcall (cOpen c _ _ R h) ?_
 rintro R1 v hle (⟨hv,rfl⟩|⟨hv,a,cap,rfl,hst⟩)
 ·try simp only[go_sem,↓reduceIte,Qa,Qb]
  rw[cycA,if_neg hv]
 ·try simp only[go_sem,↓reduceIte,Qa,Qb]
  refine vcall (zrg c hv _ _ _ R1 hst) ?_
  rintro R2 v hle2 rfl
  try simp only[go_sem,↓reduceIte,Qa]
  rw[cycA,if_pos hv]
def Cal.has(c:Cal)(m d y:Int):Prop:=1≤m∧m≤c.months.length∧1≤d∧d≤c.mlen y (m-1).toNat
instance (c:Cal) (m d y:Int):Decidable (c.has m d y):=by unfold Cal.has;infer_instance
abbrev dv(y m d:Int):Value := .agg #[.int .i64 y,.int .i64 m,.int .i64 d]
end Go.Proofs.YtdgndfabdmecmaaGreat
namespace Go.Proofs.YtdgndfabdmecmaaGreat
open Go.Proofs.YtdgndfabdmecmaaGreat.Vc
theorem ze0{c:Cal}(h:c.valid)(y:Int){m:Int}(hm:1≤m∧m≤c.months.length):mlenA c y m=c.mlen y (m-1).toNat:=by
 unfold mlenA
 rw[if_pos ⟨h,hm⟩]
theorem znV(c:Cal)(hv:c.valid)(sm sr:Value)(R:RO)(h:CalIn R c sm sr)(begin y:Int)(r:Yr)(hr:YrOK c r)(hy:1≤y∧y≤1099511627776)(hb:0≤begin∧begin≤1099511627776) :
  zaa Tryz.prog 156 [cv c sm sr,.int .i64 begin,.int .i64 y,.agg r.cells.toArray] R fun _ v=>v = .tuple #[.int .i64 (ydA c begin y r).1,.bool (ydA c begin y r).2]:=by
 have hyd:=yd_bd hv begin y hr
 have hM:=fun R' (hle:RO.le R R') m=>zhC c sm sr R' (h.mono hle) y m (by unfold I64;omega)
 have hm:=hr.month
 have hw:=hr.week
 have hd:=hr.wday
 have h16:=hv.2.1.2
 obtain⟨mo,wk,wd,mi,of⟩:=r
 obtain⟨am,cm,rfl,hcm,hfm⟩:=h.m.form
 obtain⟨ar,cr,rfl,hcr,hfr⟩:=h.r.form
 dsimp only at hm hw hd
 simp only[Yr.cells,cv] at hM ⊢
 refine zac mix Tryz.func156 comp156 (by simp[Tryz.ntmps156]) ?_;simp only[go_sem,↓reduceIte,Qa,vc156,rs156]
 refine zaj Nat (fun k=>[(10,.val (.int .i64 ((k:Int)+1))),(1,.val (.int .i64 (begin+sumTo (c.mlen y) k))),(4,.loc 0 0),(7,.loc 1 0),(2,.val (.int .i64 y))])
  (fun _=>[.box [.val (.int .i64 c.epoch),.val (.slice am c.months.length cm),.val (.int .i64 c.leap),.val (.slice ar c.rules.length cr)],.box [.val (.int .i64 mo),.val (.int .i64 wk),.val (.int .i64 wd),.val (.int .i64 mi),.val (.int .i64 of)]])
  (fun k _=>k≤(mo-1).toNat) (fun k=>(mo-1).toNat-k) 0 ?_ ?_ ?_ ?_
 ·try simp only[go_sem,↓reduceIte,Qa,Qb]
  simp[sumTo]
 ·try simp only[go_sem,Qb,Qe,Qf]
 ·exact Nat.zero_le _
 rintro k env R1 hle1 hE hk
 (simp only[go_sem] at hE;obtain⟨e10,e1,e4,e7,e2⟩:=hE;simp only[go_sem,↓reduceIte,Qa,Qb,e10,e1,e4,e7,e2];dsimp only at *)
 have hS:=zcn (f:=c.mlen y) (a:=1) (b:=41) k (fun i hi=>mlen_bd hv y (by omega))
 refine⟨fun hlt=>?_,fun hge=>?_⟩
 ·refine vcall (hM R1 hle1 ((k:Int)+1)) ?_
  rintro R2 r hle2 rfl
  rw[ze0 hv y (by omega),show((k:Int)+1-1).toNat=k by omega]
  have hml:=mlen_bd hv y (i:=k) (by omega)
  try simp only[go_sem,↓reduceIte,Qa,Qb,Qe,Qf,e10,e4,e7,e2]
  exact⟨_,W.in64 (by omega),_,W.in64 (by omega),k+1,by omega,⟨by push_cast;rfl,by simp only[sumTo,Int.add_assoc]⟩,by omega⟩
 ·obtain rfl:k=(mo-1).toNat:=by omega
  obtain⟨r,hr0⟩:∃r:Yr,r=⟨mo,wk,wd,mi,of⟩:=⟨_,rfl⟩
  have hB:begin+sumTo (c.mlen y) (mo-1).toNat=ydB c begin y r:=by rw[hr0];rfl
  have hE2:ydB c begin y r+c.mlen y (mo-1).toNat=ydE c begin y r:=by rw[hr0];rfl
  rw[←hr0] at hyd ⊢
  rw[hB] at e1
  obtain⟨b,hb0⟩:∃b,b=ydB c begin y r:=⟨_,rfl⟩
  obtain⟨e,he0⟩:∃e,e=ydE c begin y r:=⟨_,rfl⟩
  have hA:ydA c begin y r=if wk=5 then(e-1-(e-1-wd)%7,decide (b≤e-1-(e-1-wd)%7)) else(b+(wd-b)%7+7*(wk-1),decide (b+(wd-b)%7+7*(wk-1)<e)):=by
   unfold ydA;rw[hb0,he0,hr0]
  rw[←hb0,←he0] at hyd
  rw[←hb0] at e1 hE2
  rw[←he0] at hE2
  rw[hA]
  refine vcall (hM R1 hle1 mo) ?_
  rintro R2 r hle2 rfl
  rw[ze0 hv y (by omega)]
  try simp only[go_sem,↓reduceIte,Qa,e1,e7]
  rw[show begin+sumTo (c.mlen y) (mo-1).toNat+c.mlen y (mo-1).toNat=e by rw[hB,←hb0];exact hE2]
  refine⟨_,W.in64 (by omega),_,W.in64 (by omega),vcall (zjw (wd-b) (by unfold I64;omega) R2) ?_⟩
  rintro R3 r hle3 rfl
  try simp only[go_sem,↓reduceIte,Qa,e7]
  have h7:=Int.emod_nonneg (wd-b) (by omega:(7:Int)≠0)
  have h8:=Int.emod_lt_of_pos (wd-b) (by omega:(0:Int)<7)
  refine⟨_,W.in64 (by omega),?_⟩
  refine⟨fun h5=>?_,fun h5=>?_⟩
  ·rw[if_pos h5]
   refine⟨_,W.in64 (by omega),_,W.in64 (by omega),_,W.in64 (by omega),vcall (zjw (e-1-wd) (by unfold I64;omega) R3) ?_⟩
   rintro R4 r hle4 rfl
   try simp only[go_sem,↓reduceIte,Qa,e1]
   have h9:=Int.emod_nonneg (e-1-wd) (by omega:(7:Int)≠0)
   have h10:=Int.emod_lt_of_pos (e-1-wd) (by omega:(0:Int)<7)
   refine⟨_,W.in64 (by omega),?_⟩
   rfl
  ·rw[if_neg h5]
   refine⟨_,W.in64 (by omega),_,W.in64 (by omega),_,W.in64 (by omega),?_⟩
   rfl
end Go.Proofs.YtdgndfabdmecmaaGreat
namespace Go.Proofs.YtdgndfabdmecmaaGreat
open Go.RowKit Go.Proofs.YtdgndfabdmecmaaGreat.Vc
def zpp(a len w n:Int):Int:=if n<0 then a+len-1-(a+len-1-w)%7+(n+1)*7 else a+(w-a)%7+(n-1)*7
def nthOk(a len w n:Int):Prop:=n≤len ∧ -len≤n∧a≤zpp a len w n∧zpp a len w n<a+len
instance (a len w n:Int):Decidable (nthOk a len w n):=by unfold nthOk;infer_instance
theorem MonthsIn.row{R:RO}{b cap:Nat}{ms:List Int}(h:RowIn R b (ms.map (.int .i64)))(hc:(ms.map (Value.int .i64)).length≤cap*1)(hb:∀m∈ms,I64 m)(hn:ms.length≤140737488355328):MonthsIn R (.slice (some ⟨b,0,none⟩) ms.length cap) ms :=
 ⟨h.ints (by simpa using hc),hb,hn⟩
theorem MonthsIn.nil(R:RO):MonthsIn R (.slice none 0 0) []:=⟨Ints.nil R,by simp,by simp⟩
theorem SlK.nil(R:RO)(k:Nat):SlK R (.slice none 0 0) k []:=⟨none,0,rfl,Nat.le_refl _,by simp⟩
theorem RulesIn.nil(R:RO):RulesIn R (.slice none 0 0) []:=⟨SlK.nil R 3,by simp,by simp⟩
theorem RulesIn.row{R:RO}{b cap:Nat}{rs:List Rule}(h:RowIn R b (rs.map za0).flatten)(hc:(rs.map za0).flatten.length≤cap*3)(hb:∀r∈rs,I64 r.1∧I64 r.2.1)(hn:rs.length≤140737488355328):RulesIn R (.slice (some ⟨b,0,none⟩) rs.length cap) rs:=by
 have:=RowIn.slK (k:=3) h (by intro us hus;obtain⟨r,_,rfl⟩:=List.mem_map.1 hus;rfl) (by decide) hc
 exact⟨by simpa using this,hb,hn⟩
theorem rLeap(c:Cal)(sm sr:Value)(R:RO)(h:CalIn R c sm sr)(y:Int)(hy:I64 y):zaa Tryz.prog 119 [cv c sm sr,.int .i64 y] R fun _ v=>v = .bool (leapA c y):=by
 obtain⟨am,cm,rfl,hcm,hfm⟩:=h.m.form
 obtain⟨ar,cr,rfl,hcr,hfr⟩:=h.r.form
 refine zac mix Tryz.func119 comp119 (by simp[Tryz.ntmps119]) ?_;simp only[go_sem,↓reduceIte,Qa,Qb,vc119,rs119]
 refine vcall (zhA c _ _ R h) ?_
 rintro R1 v hle rfl
 try simp only[go_sem,↓reduceIte]
 refine⟨fun hv=>by simp[leapA,hv],fun hv=>?_⟩
 refine zaj Nat (fun k=>[(6,.val (.int .i64 k)),(5,.val (.bool (zbF (c.rules.take k) y))),(2,.loc 0 0),(1,.val (.int .i64 y))])
  (fun k=>[.box [.val (.int .i64 c.epoch),.val (.slice am c.months.length cm),.val (.int .i64 c.leap),.val (.slice ar c.rules.length cr)]])
  (fun k _=>k≤c.rules.length) (fun k=>c.rules.length-k) 0 ?_ rfl ?_ ?_
 ·(try simp only[go_sem,↓reduceIte,Qa])<;>(repeat' (first|rfl|trivial|constructor|(intro h;exact absurd rfl h)))
 ·omega
 ·rintro k env R2 hle2 hE hk
  (simp only[go_sem] at hE;obtain⟨e6,e5,e2,e1⟩:=hE;simp only[go_sem,↓reduceIte,Qa,Qb,e6,e5,e2,e1];dsimp only at *)
  have hrl:=hv.2.2.2.1
  refine⟨fun hlt=>⟨hlt,?_⟩,fun hge=>?_⟩
  ·have hlt':k<c.rules.length:=by omega
   obtain⟨ad,had,hR⟩:=hfr k hlt'
   have hok:=(hv.per.2.2 c.rules[k] (List.getElem_mem hlt')).1
   have hbd:=h.r.bd c.rules[k] (List.getElem_mem hlt')
   have hs:=zdN (c.rules.take k) c.rules[k] y
   rw[←List.take_succ_eq_append_getElem hlt'] at hs
   generalize hr:c.rules[k]=r at *
   obtain⟨ev,rest,yes⟩:=r
   dsimp only at hbd hs
   simp only[zbE] at hok
   have hld:=fun(R3:RO) (hle3:RO.le R R3) (j:Nat) (v:Value) (hj:(za0 (ev,rest,yes))[j]?=some v)=>hle3 _ _ (hR j v hj)
   refine vat ad had ?_
   try simp only[go_sem,↓reduceIte]
   refine vload (.int .i64 ev) (by have:=hle2 _ _ (hle _ _ (hR 0 _ rfl));rwa [Addr.add_zero'] at this) ?_
   simp only[go_sem,↓reduceIte,Qa,e6,e2]
   refine⟨hlt,vat ad had ?_⟩
   try simp only[go_sem,↓reduceIte]
   refine vload (.int .i64 rest) (hle2 _ _ (hle _ _ (hR 1 _ rfl))) ?_
   simp only[go_sem,↓reduceIte,Qa]
   refine vcall (rMod y ev (by omega) hbd.1 hy R2) ?_
   rintro R3 v hle3 rfl
   simp only[go_sem,↓reduceIte,Qa,Qe,Qf,e6,e5,e2,e1]
   refine⟨fun h1=>⟨hlt,vat ad had ?_⟩,fun h1=>⟨_,W.in64 (by omega),k+1,by omega,⟨rfl,?_⟩,by omega⟩⟩
   ·try simp only[go_sem,↓reduceIte,Qb]
    refine vload (.bool yes) (hle3 _ _ (hle2 _ _ (hle _ _ (hR 2 _ rfl)))) ?_
    simp only[go_sem,↓reduceIte,Qa,Qe,Qf,e6,e2,e1]
    refine⟨_,W.in64 (by omega),k+1,by omega,⟨rfl,?_⟩,by omega⟩
    rw[hs,if_pos h1]
   ·rw[hs,if_neg h1]
  ·rw[List.take_of_length_le (by omega)]
   simp[leapA,hv]
theorem zhD(c:Cal)(sm sr:Value)(R:RO)(h:CalIn R c sm sr)(y m:Int)(hy:I64 y)(hm:I64 m):zaa Tryz.prog 118 [cv c sm sr,.int .i64 y,.int .i64 m] R fun _ v=>v = .int .i64 (mlenA c y m):=by
 have h0:=h
 obtain⟨am,cm,rfl,hcm,hfm⟩:=h.m.form
 obtain⟨ar,cr,rfl,hcr,hfr⟩:=h.r.form
 refine zac mix Tryz.func118 comp118 (by simp[Tryz.ntmps118]) ?_;simp only[go_sem,↓reduceIte,Qa,Qb,vc118,rs118]
 refine vcall (zhA c _ _ R h) ?_
 rintro R1 v hle rfl
 try simp only[go_sem,↓reduceIte,Qa,Qb]
 refine⟨fun hv=>⟨fun h1=>⟨fun h2=>?_,fun h2=>?_⟩,fun h1=>?_⟩,fun hv=>?_⟩
 ·rw[mlenA,if_neg (by omega)]
 ·have hml:=hv.2.1
  have hi:(m-1).toNat<c.months.length:=by omega
  obtain⟨ad,had,hR⟩:=hfm (m-1).toNat hi
  have hb:=hv.mlen_bd y hi
  have hin:=hv.2.2.2.2.2.1 _ (List.getElem_mem hi)
  have hE:mlenA c y m=c.months[(m-1).toNat]+if m-1=c.leap∧zbF c.rules y=true then 1 else 0:=by
   rw[mlenA,if_pos ⟨hv,by omega,by omega⟩,Cal.mlen,List.getD_eq_getElem?_getD,List.getElem?_eq_getElem hi,Option.getD_some,show(((m-1).toNat:Nat):Int)=m-1 by omega]
  refine⟨_,W.in64 (by omega),fun h3=>?_,fun h3=>?_⟩
  ·refine vcall (rLeap c _ _ R1 (h0.mono hle) y hy) ?_
   rintro R2 v hle2 rfl
   try simp only[go_sem,↓reduceIte,Qa]
   have hla:leapA c y=zbF c.rules y:=by simp[leapA,hv]
   rw[hla]
   refine⟨fun h4=>⟨_,W.in64 (by omega),by omega,by omega,vat ad had ?_⟩,fun h4=>⟨_,W.in64 (by omega),by omega,by omega,vat ad had ?_⟩⟩
   ·try simp only[go_sem,↓reduceIte]
    refine vload _ (hle2 _ _ (hle _ _ hR)) ?_
    try simp only[go_sem,↓reduceIte]
    refine⟨_,W.in64 (by omega),?_⟩
    rw[hE,if_pos ⟨h3,h4⟩]
   ·try simp only[go_sem,↓reduceIte]
    refine vload _ (hle2 _ _ (hle _ _ hR)) ?_
    try simp only[go_sem,↓reduceIte]
    rw[hE,if_neg (fun h=>by rw[h.2] at h4;cases h4),Int.add_zero]
  ·refine⟨_,W.in64 (by omega),by omega,by omega,vat ad had ?_⟩
   try simp only[go_sem,↓reduceIte]
   refine vload _ (hle _ _ hR) ?_
   try simp only[go_sem,↓reduceIte]
   rw[hE,if_neg (fun h=>h3 h.1),Int.add_zero]
 ·rw[mlenA,if_neg (by omega)]
 ·rw[mlenA,if_neg (fun h=>hv h.1)]
def Cal.common(c:Cal):Int:=sumTo (fun i=>c.months.getD i 0) c.months.length
theorem zhE(f:Nat→Int)(l:Nat):∀n:Nat,sumTo (fun i=>f i+if i=l then 1 else 0) n=sumTo f n+if l<n then 1 else 0
 |0=>by simp[sumTo]
 |n+1=>by
  simp only[sumTo,zhE f l n]
  by_cases h1:l<n
  ·rw[if_pos h1,if_neg (by omega),if_pos (by omega)];omega
  ·by_cases h2:n=l
   ·rw[if_neg h1,if_pos h2,if_pos (by omega)];omega
   ·rw[if_neg h1,if_neg h2,if_neg (by omega)];omega
theorem Cal.valid.ylen_eq{c:Cal}(h:c.valid)(y:Int):c.ylen y=c.common+if zbF c.rules y=true then 1 else 0:=by
 have h3:=h.2.2.1
 by_cases hl:zbF c.rules y=true
 ·have h0:c.leap ≠ -1:=fun e=>by
   have:=h.2.2.2.2.1 e
   rw[this] at hl
   cases hl
  have e:=zhE (fun i=>c.months.getD i 0) c.leap.toNat c.months.length
  rw[if_pos (by omega)] at e
  rw[if_pos hl]
  unfold Cal.ylen Cal.common
  rw[←e]
  refine sumTo_congr _ fun i hi=>?_
  unfold Cal.mlen
  congr 1
  by_cases hil:(i:Int)=c.leap
  ·rw[if_pos ⟨hil,hl⟩,if_pos (by omega)]
  ·rw[if_neg (fun h=>hil h.1),if_neg (by omega)]
 ·rw[if_neg hl]
  unfold Cal.ylen Cal.common
  rw[Int.add_zero]
  refine sumTo_congr _ fun i hi=>?_
  unfold Cal.mlen
  rw[if_neg (fun h=>hl h.2),Int.add_zero]
theorem zlN(c:Cal)(hv:c.valid)(sm sr:Value)(R:RO)(h:CalIn R c sm sr):zaa Tryz.prog 120 [cv c sm sr] R fun _ v=>v = .int .i64 c.common:=by
 obtain⟨am,cm,rfl,hcm,hfm⟩:=h.m.form
 obtain⟨ar,cr,rfl,hcr,hfr⟩:=h.r.form
 have hml:=hv.2.1
 refine zac mix Tryz.func120 comp120 (by simp[Tryz.ntmps120]) ?_;simp only[go_sem,vc120,rs120]
 refine zaj Nat (fun k=>[(4,.val (.int .i64 k)),(3,.val (.int .i64 (sumTo (fun i=>c.months.getD i 0) k))),(1,.loc 0 0)])
  (fun k=>[.box [.val (.int .i64 c.epoch),.val (.slice am c.months.length cm),.val (.int .i64 c.leap),.val (.slice ar c.rules.length cr)]])
  (fun k _=>k≤c.months.length) (fun k=>c.months.length-k) 0 ?_ rfl ?_ ?_
 ·(try simp only[go_sem,↓reduceIte,Qa])<;>(repeat' (first|rfl|trivial|constructor|(intro h;exact absurd rfl h)))
 ·omega
 ·rintro k env R2 hle2 hE hk
  (simp only[go_sem] at hE;obtain⟨e4,e3,e1⟩:=hE;simp only[go_sem,↓reduceIte,Qa,Qb,e4,e3,e1];dsimp only at *)
  refine⟨fun hlt=>⟨hlt,?_⟩,fun hge=>?_⟩
  ·have hlt':k<c.months.length:=by omega
   obtain⟨ad,had,hR⟩:=hfm k hlt'
   have hin:=hv.2.2.2.2.2.1 _ (List.getElem_mem hlt')
   have hs:=zcn (f:=fun i=>c.months.getD i 0) (a:=0) (b:=40) k (fun i hi=>by
    have hi':i<c.months.length:=by omega
    have:=hv.2.2.2.2.2.1 _ (List.getElem_mem hi')
    simp only[List.getD_eq_getElem?_getD,List.getElem?_eq_getElem hi',Option.getD_some]
    omega)
   refine vat ad had ?_
   try simp only[go_sem,↓reduceIte]
   refine vload _ (hle2 _ _ hR) ?_
   simp only[go_sem,↓reduceIte,Qa,Qe,Qf,e4,e1]
   refine⟨_,W.in64 (by omega),_,W.in64 (by omega),k+1,by omega,⟨rfl,?_⟩,by omega⟩
   simp only[sumTo,List.getD_eq_getElem?_getD,List.getElem?_eq_getElem hlt',Option.getD_some]
  ·have:k=c.months.length:=by omega
   subst this
   rfl
theorem zfp(c:Cal)(sm sr:Value)(R:RO)(h:CalIn R c sm sr)(y:Int)(hy:I64 y):zaa Tryz.prog 91 [cv c sm sr,.int .i64 y] R fun _ v=>v = .int .i64 (ylenA c y):=by
 have h0:=h
 obtain⟨am,cm,rfl,hcm,hfm⟩:=h.m.form
 obtain⟨ar,cr,rfl,hcr,hfr⟩:=h.r.form
 refine zac mix Tryz.func91 comp91 (by simp[Tryz.ntmps91]) ?_;simp only[go_sem,↓reduceIte,Qa,Qb,vc91,rs91]
 refine vcall (zhA c _ _ R h) ?_
 rintro R1 v hle rfl
 try simp only[go_sem,↓reduceIte,Qa,Qb]
 refine⟨fun hv=>by rw[ylenA,if_neg hv],fun hv=>?_⟩
 have hE:=hv.ylen_eq y
 have hb:=hv.ylen_bd y
 have hml:=hv.2.1
 refine vcall (rLeap c _ _ R1 (h0.mono hle) y hy) ?_
 rintro R2 v hle2 rfl
 try simp only[go_sem,↓reduceIte,Qa,Qb]
 have hla:leapA c y=zbF c.rules y:=by simp[leapA,hv]
 rw[hla]
 refine⟨fun h4=>?_,fun h4=>?_⟩
 ·refine vcall (zlN c hv _ _ R2 ((h0.mono hle).mono hle2)) ?_
  rintro R3 v hle3 rfl
  try simp only[go_sem,↓reduceIte]
  rw[if_pos h4] at hE
  refine⟨_,W.in64 (by omega),?_⟩
  rw[ylenA,if_pos hv,hE]
 ·refine vcall (zlN c hv _ _ R2 ((h0.mono hle).mono hle2)) ?_
  rintro R3 v hle3 rfl
  try simp only[go_sem,↓reduceIte]
  rw[if_neg (by simpa using h4),Int.add_zero] at hE
  rw[ylenA,if_pos hv,hE]
theorem zri(c:Cal)(sm sr:Value)(R:RO)(h:CalIn R c sm sr):zaa Tryz.prog 92 [cv c sm sr] R fun _ v=>v=cycA c:=by
 have h0:=h
 obtain⟨am,cm,rfl,hcm,hfm⟩:=h.m.form
 obtain⟨ar,cr,rfl,hcr,hfr⟩:=h.r.form
 refine zac mix Tryz.func92 comp92 (by simp[Tryz.ntmps92]) ?_;simp only[go_sem,↓reduceIte,Qa,Qb,vc92,rs92]
 refine vcall (zhA c _ _ R h) ?_
 rintro R1 v hle rfl
 try simp only[go_sem,↓reduceIte,Qa]
 refine⟨fun hv=>by rw[cycA,if_neg hv],fun hv=>?_⟩
 have hper:=hv.per
 refine zaj (Nat×Int) (fun x=>[(6,.val (.int .i64 x.1)),(5,.val (.int .i64 x.2)),(1,.loc 0 0)])
  (fun _=>[.box [.val (.int .i64 c.epoch),.val (.slice am c.months.length cm),.val (.int .i64 c.leap),.val (.slice ar c.rules.length cr)]])
  (fun x _=>x.1≤c.rules.length∧1≤x.2∧x.2≤400∧some c.per=zax x.2 (c.rules.drop x.1)) (fun x=>c.rules.length-x.1) (0,1) ?_ rfl ?_ ?_
 ·(try simp only[go_sem,↓reduceIte,Qa])<;>(repeat' (first|rfl|trivial|constructor|(intro h;exact absurd rfl h)))
 ·exact⟨by omega,by omega,by omega,hper.1.symm⟩
 ·rintro⟨k,y⟩ env R2 hle2 hE ⟨hk,hy1,hy2,hp⟩
  (simp only[go_sem] at hE;obtain⟨e6,e5,e1⟩:=hE;simp only[go_sem,↓reduceIte,Qa,Qb,e6,e5,e1];dsimp only at *)
  have hrl:=hv.2.2.2.1
  refine⟨fun hlt=>⟨hlt,?_⟩,fun hge=>?_⟩
  ·have hlt':k<c.rules.length:=by omega
   obtain⟨ad,had,hR⟩:=hfr k hlt'
   have hok:=(hper.2.2 c.rules[k] (List.getElem_mem hlt')).1
   have hbd:=h.r.bd c.rules[k] (List.getElem_mem hlt')
   have hdrop:c.rules.drop k=c.rules[k]::c.rules.drop (k+1):=by simp
   rw[hdrop] at hp
   generalize hr:c.rules[k]=r at *
   obtain⟨ev,rest,yes⟩:=r
   dsimp only at hbd
   simp only[zax] at hp
   rw[if_pos hok] at hp
   simp only[zbE] at hok
   have hev:=fun(R3:RO) (hle3:RO.le R2 R3)=>by
    have:=hle3 _ _ (hle2 _ _ (hle _ _ (hR 0 _ rfl)))
    rwa [Addr.add_zero'] at this
   refine vat ad had ?_
   try simp only[go_sem,↓reduceIte]
   refine vload (.int .i64 ev) (hev _ (RO.le_refl _)) ?_
   simp only[go_sem,↓reduceIte,Qa,e6,e1]
   refine⟨hlt,vat ad had ?_⟩
   try simp only[go_sem,↓reduceIte]
   refine vload (.int .i64 ev) (hev _ (RO.le_refl _)) ?_
   simp only[go_sem,↓reduceIte,Qa]
   refine vcall (rGcd y ev hy1 (by omega) (by unfold I64;omega) hbd.1 R2) ?_
   rintro R3 v hle3 rfl
   simp only[go_sem,↓reduceIte,Qa,Qe,Qf,e6,e1]
   have hg:=zca (a:=y) ev hy1
   have hl:=zgZ hy1 (show 1≤ev by omega)
   have hm:=rlcm hy1 (show 1≤ev by omega)
   have hd:=znw y (Int.gcd y ev) hg.1
   have hl4:(Int.lcm y ev:Int)≤400:=by
    rcases Int.lt_or_le 400 (Int.lcm y ev:Int) with h9|h9
    ·rw[if_neg (by omega)] at hp;cases hp
    ·exact h9
   rw[if_pos hl4] at hp
   refine⟨by omega,_,W.in64 (by omega),?_⟩
   rw[hm]
   exact⟨_,W.in64 (by omega),_,W.in64 (by omega),(k+1,(Int.lcm y ev:Int)),by dsimp only;omega,⟨rfl,rfl⟩,by dsimp only;omega,by dsimp only;omega,by dsimp only;omega,by dsimp only;exact hp⟩
  ·have:c.rules.drop k=[]:=List.drop_eq_nil_of_le (by omega)
   rw[this] at hp
   simp only[zax,Option.some.injEq] at hp
   subst hp
   refine zaj Nat (fun k=>[(8,.val (.int .i64 (k+1:Int))),(7,.val (.int .i64 (c.S k))),(5,.val (.int .i64 c.per)),(1,.loc 0 0)])
    (fun _=>[.box [.val (.int .i64 c.epoch),.val (.slice am c.months.length cm),.val (.int .i64 c.leap),.val (.slice ar c.rules.length cr)]])
    (fun k _=>k≤c.per) (fun k=>c.per.toNat-k) 0 ?_ rfl ?_ ?_
   ·simp only[go_sem,↓reduceIte,Qa,e5,e1]
    repeat' (first|rfl|constructor)
   ·omega
   ·rintro k2 env2 R3 hle3 hE hk2
    (simp only[go_sem] at hE;obtain⟨f8,f7,f5,f1⟩:=hE;simp only[go_sem,↓reduceIte,Qa,Qb,f8,f7,f5,f1];dsimp only at *)
    have hS:=hv.S_bd k2
    have hyb:=hv.ylen_bd (k2+1)
    have hS1:c.S (k2+1)=c.S k2+c.ylen (k2+1):=rfl
    refine⟨fun hlt=>?_,fun hge=>?_⟩
    ·refine vcall (zfp c _ _ R3 (((h0.mono hle).mono hle2).mono hle3) (k2+1) (by unfold I64;omega)) ?_
     rintro R4 v hle4 rfl
     simp only[go_sem,↓reduceIte,Qa,Qe,Qf,f8,f5,f1]
     rw[ylenA,if_pos hv,←hS1]
     exact⟨_,W.in64 (by omega),_,W.in64 (by omega),k2+1,by omega,⟨rfl,rfl⟩,by omega⟩
    ·have:(k2:Int)=c.per:=by omega
     have e:c.S k2=c.days:=by rw[Cal.days];congr 1;omega
     rw[e,cycA,if_pos hv]
end Go.Proofs.YtdgndfabdmecmaaGreat
namespace Go.Proofs.YtdgndfabdmecmaaGreat
open Go.Proofs.YtdgndfabdmecmaaGreat.Vc
theorem zjy(ps:List Tr):∀c∈ps.map Tr.cells,c.length=2:=fun c hc=>by obtain⟨x,_,rfl⟩:=List.mem_map.1 hc;rfl
theorem zbR(l:List Tr):(rowTr l).length=l.length*2:=by
 unfold rowTr
 rw[zag (k:=2) (zjy l)]
 simp
theorem zfq(a b:List Tr):rowTr (a++b)=rowTr a++rowTr b:=by simp[rowTr]
theorem zkg(t:Tr)(b:List Tr):rowTr (t::b)=t.cells++rowTr b:=by simp[rowTr]
theorem zd4(ps:List Tr)(i j:Nat)(hi:i<ps.length)(hj:j<2):(rowTr ps)[i*2+j]?=(ps[i].cells)[j]? :=
 getElem?_flatten (zjy ps) i j _ (by rw[List.getElem?_map,List.getElem?_eq_getElem hi];rfl) hj
def zbh(l:List Tr)(t:Tr)(i:Nat):List Tr:=l.take i++t::l.drop i
theorem zgu(l:List Tr)(t:Tr)(i:Nat):rowTr (zbh l t i)=rowTr (l.take i)++t.cells++rowTr (l.drop i):=by
 simp[zbh,rowTr]
theorem zcC(l:List Tr)(t:Tr)(i:Nat):(zbh l t i).length=l.length+1:=by
 simp[zbh]
 omega
theorem zfr(l:List Tr)(t:Tr)(i:Nat):(zbh l t i).Perm (t::l):=by
 have:=List.perm_middle (a:=t) (l₁:=l.take i) (l₂:=l.drop i)
 rwa [List.take_append_drop] at this
theorem set4(A C:List Value)(p q u v:Value)(k:Nat)(hA:A.length=k*2):((((A++p::q::u::v::C).set ((k+1)*2) p).set ((k+1)*2+1) q).set (k*2) u).set (k*2+1) v=A++u::v::p::q::C:=by
 rw[show(k+1)*2=A.length+2 by omega,←hA]
 have e:∀(n:Nat) (D:List Value) (x:Value),(A++D).set (A.length+n) x=A++D.set n x:=fun n D x=>by
  rw[List.set_append_right _ _ (by omega),Nat.add_sub_cancel_left]
 have e0:∀(D:List Value) (x:Value),(A++D).set A.length x=A++D.set 0 x:=fun D x=>e 0 D x
 rw[e,Nat.add_assoc,e,e0,e]
 rfl
theorem ziA(l:List Tr)(t:Tr)(k:Nat)(hk:k<l.length) :
  ((((rowTr (zbh l t (k+1))).set ((k+1)*2) (.int .i64 (l[k]).pos)).set ((k+1)*2+1) (.int .i64 (l[k]).off)).set (k*2) (.int .i64 t.pos)).set (k*2+1) (.int .i64 t.off)=rowTr (zbh l t k):=by
 have h1:rowTr (zbh l t (k+1))=rowTr (l.take k) ++ .int .i64 (l[k]).pos :: .int .i64 (l[k]).off :: .int .i64 t.pos :: .int .i64 t.off::rowTr (l.drop (k+1)):=by
  rw[zgu,List.take_succ_eq_append_getElem hk,zfq]
  simp[rowTr,Tr.cells]
 have h2:rowTr (zbh l t k)=rowTr (l.take k) ++ .int .i64 t.pos :: .int .i64 t.off :: .int .i64 (l[k]).pos :: .int .i64 (l[k]).off::rowTr (l.drop (k+1)):=by
  rw[zgu,List.drop_eq_getElem_cons hk,zkg]
  simp[Tr.cells]
 rw[h1,h2]
 exact set4 _ _ _ _ _ _ k (by rw[zbR,List.length_take];omega)
theorem rInsT(l:List Tr)(t:Tr)(hs:Sor l)(hl:l.length≤100000000)(R:RO) :
  zaV Tryz.prog 90 [.sl 0 l.length,.val (.agg t.cells.toArray)] [.row 95 2 (rowTr l)] R fun R' bs r =>
   ∃ys,ys.Perm (t::l)∧Sor ys∧bs=[.dead,.dead,.dead,.row 95 2 (rowTr ys)]∧r = .sl 3 ys.length:=by
 simp only[Tr.cells]
 refine zdj mix Tryz.func90 comp90 (by simp[Tryz.ntmps90]) rfl rfl ?_;simp only[go_sem,↓reduceIte,Qa,Qb,Qc,reduceCtorEq,vc90,rs90]
 refine vappO (rowTr l) rfl (by rw[zbR]) (by omega) ?_
 try simp only[go_sem,↓reduceIte]
 refine⟨_,W.in64 (by omega),?_⟩
 refine zaj Nat (fun i=>[(6,.val (.int .i64 i)),(5,.sl 3 (l.length+1))]) (fun i=>[.dead,.dead,.dead,.row 95 2 (rowTr (zbh l t i))])
  (fun i _=>i≤l.length∧∀x∈l.drop i,t.pos<x.pos) (fun i=>i) l.length ?_ ?_ ?_ ?_
 ·try simp only[go_sem,↓reduceIte,Qa,Qb]
  refine⟨by push_cast;congr 2;omega,?_⟩
  simp[zbh,rowTr,Tr.cells]
 ·simp only[go_sem,Qb,Qd,Qe,Qf,za3,zfU]
  decide
 ·exact⟨Nat.le_refl _,by simp⟩
 rintro i env R1 hle1 hE ⟨hi,hgt⟩
 (simp only[go_sem] at hE;obtain⟨e6,e5⟩:=hE;simp only[go_sem,↓reduceIte,Qa,Qb,e6,e5];dsimp only at *)
 have hlen:=zbR (zbh l t i)
 rw[zcC] at hlen
 have hgi:∀j,j<2→(rowTr (zbh l t i))[i*2+j]?=(t.cells)[j]?:=fun j hj=>by
  rw[zd4 _ i j (by rw[zcC];omega) hj]
  simp[zbh,hi]
 refine⟨fun hpos=>?_,fun hneg=>?_⟩
 ·have hi1:i-1<l.length:=by omega
  have hgp:∀j,j<2→(rowTr (zbh l t i))[(i-1)*2+j]?=((l[i-1]).cells)[j]?:=fun j hj=>by
   rw[zd4 _ (i-1) j (by rw[zcC];omega) hj]
   congr 2
   simp only[zbh]
   rw[List.getElem_append_left (by simp;omega),List.getElem_take]
  refine⟨_,W.in64 (by omega),by omega,by omega,?_⟩
  rw[show((i:Int)-1).toNat=i-1 by omega]
  refine⟨_,(hgp 0 (by omega)).trans rfl,by omega,_,(hgi 0 (by omega)).trans rfl,?_⟩
  try simp only[go_sem,↓reduceIte,Qa,Qb,e6,e5]
  refine⟨fun hsw=>?_,fun hst=>?_⟩
  ·obtain⟨k,rfl⟩:∃k,i=k+1:=⟨i-1,by omega⟩
   simp only[Nat.add_sub_cancel] at hgp hsw
   refine⟨by omega,_,(hgi 0 (by omega)).trans rfl,_,(hgi 1 (by omega)).trans rfl,⟨rfl,rfl⟩,_,W.in64 (by omega),by omega,by omega,?_⟩
   rw[show(((k+1:Nat):Int)-1).toNat=k by omega]
   refine⟨_,(hgp 0 (by omega)).trans rfl,_,(hgp 1 (by omega)).trans rfl,by omega,by omega,⟨rfl,rfl⟩,_,W.in64 (by omega),by omega,by omega,?_⟩
   rw[show(((k+1:Nat):Int)-1).toNat=k by omega]
   refine⟨by omega,⟨rfl,rfl⟩,_,W.in64 (by omega),k,by omega,⟨by congr 2;omega,ziA l t k (by omega)⟩,?_,by omega,fun x hx=>?_⟩
   ·simp only[go_sem,Qb,Qd,Qe,Qf,za3,zfU]
    decide
   ·rw[List.drop_eq_getElem_cons (by omega:k<l.length)] at hx
    rcases List.mem_cons.1 hx with rfl|hx
    ·omega
    ·exact hgt x hx
  ·refine⟨zbh l t i,zfr l t i,?_,⟨rfl,rfl,rfl,rfl⟩,by rw[zcC]⟩
   unfold Sor zbh
   unfold Sor at hs
   have hlast:∀x∈l.take i,x.pos≤t.pos:=fun x hx=>by
    obtain⟨j,hj,rfl⟩:=List.mem_iff_getElem.1 hx
    rw[List.length_take] at hj
    rw[List.getElem_take]
    rcases Nat.lt_or_ge j (i-1) with h1|h1
    ·have:=List.pairwise_iff_getElem.1 hs j (i-1) (by omega) hi1 h1
     omega
    ·obtain rfl:j=i-1:=by omega
     omega
   rw[List.pairwise_append]
   refine⟨hs.sublist (List.take_sublist _ _),List.Pairwise.cons (fun x hx=>by have:=hgt x hx;omega) (hs.sublist (List.drop_sublist _ _)),fun x hx y hy=>?_⟩
   have h1:=hlast x hx
   rcases List.mem_cons.1 hy with rfl|hy
   ·exact h1
   ·have:=hgt y hy;omega
 ·obtain rfl:i=0:=by omega
  refine⟨zbh l t 0,zfr l t 0,?_,⟨rfl,rfl,rfl,rfl⟩,by rw[zcC]⟩
  have:zbh l t 0=t::l:=by simp[zbh]
  rw[this]
  exact List.Pairwise.cons (fun x hx=>by have:=hgt x (by simpa using hx);omega) hs
theorem znW{b d wd:Int}(hwd:0≤wd∧wd≤6)(h1:b≤d)(h2:∀x,b≤x→x<d→x%7≠wd)(h3:d%7=wd):b+(wd-b)%7=d:=by
 rcases Int.lt_or_le (b+(wd-b)%7) d with h|h
 ·exact absurd (by omega) (h2 _ (by omega) h)
 ·omega
theorem zp2{b e wd:Int}(hwd:0≤wd∧wd≤6)(h2:∀x,b≤x→x<e→x%7≠wd):¬ b+(wd-b)%7<e:=fun h=>absurd (by omega) (h2 _ (by omega) h)
theorem zp3{e la wd:Int}(hwd:0≤wd∧wd≤6)(h1:la<e)(h2:∀x,la<x→x<e→x%7≠wd)(h3:la%7=wd):e-1-(e-1-wd)%7=la:=by
 rcases Int.lt_or_le la (e-1-(e-1-wd)%7) with h|h
 ·exact absurd (by omega) (h2 _ h (by omega))
 ·omega
theorem ziB{b e wd:Int}(hwd:0≤wd∧wd≤6)(h2:∀x,b≤x→x<e→x%7≠wd):¬ b≤e-1-(e-1-wd)%7:=fun h=>absurd (by omega) (h2 _ h (by omega))
theorem rFind(c:Cal)(hv:c.valid)(sm sr:Value)(R:RO)(h:CalIn R c sm sr)(begin y:Int)(r:Yr)(hr:YrOK c r)(hw5:r.week=1∨r.week=5)(hy:1≤y∧y≤1099511627776)(hb:0≤begin∧begin≤1099511627776) :
  zaa Tryz.prog 89 [cv c sm sr,.int .i64 begin,.int .i64 y,.agg r.cells.toArray] R fun _ v=>∃d,v = .tuple #[.int .i64 d,.bool (ydA c begin y r).2]∧((ydA c begin y r).2=true→d=(ydA c begin y r).1):=by
 have hyd:=yd_bd hv begin y hr
 have hM:=fun R' (hle:RO.le R R') m (hm:I64 m)=>zhD c sm sr R' (h.mono hle) y m (by unfold I64;omega) hm
 have hm:=hr.month
 have hd:=hr.wday
 have h16:=hv.2.1.2
 obtain⟨mo,wk,wd,mi,of⟩:=r
 obtain⟨am,cm,rfl,hcm,hfm⟩:=h.m.form
 obtain⟨ar,cr,rfl,hcr,hfr⟩:=h.r.form
 dsimp only at hm hw5 hd
 simp only[Yr.cells,cv] at hM ⊢
 refine zac mix Tryz.func89 comp89 (by simp[Tryz.ntmps89]) ?_;simp only[go_sem,↓reduceIte,Qa,vc89,rs89]
 refine zaj Nat (fun k=>[(11,.val (.int .i64 ((k:Int)+1))),(10,.val (.int .i64 (begin+sumTo (c.mlen y) k))),(4,.loc 0 0),(7,.loc 1 0),(2,.val (.int .i64 y))])
  (fun _=>[.box [.val (.int .i64 c.epoch),.val (.slice am c.months.length cm),.val (.int .i64 c.leap),.val (.slice ar c.rules.length cr)],.box [.val (.int .i64 mo),.val (.int .i64 wk),.val (.int .i64 wd),.val (.int .i64 mi),.val (.int .i64 of)]])
  (fun k _=>k≤(mo-1).toNat) (fun k=>(mo-1).toNat-k) 0 ?_ ?_ ?_ ?_
 ·try simp only[go_sem,↓reduceIte,Qa,Qb]
  simp[sumTo]
 ·try simp only[go_sem,Qb,Qe,Qf]
 ·exact Nat.zero_le _
 rintro k env R1 hle1 hE hk
 (simp only[go_sem] at hE;obtain⟨e11,e10,e4,e7,e2⟩:=hE;simp only[go_sem,↓reduceIte,Qa,Qb,e11,e10,e4,e7,e2];dsimp only at *)
 have hS:=zcn (f:=c.mlen y) (a:=1) (b:=41) k (fun i hi=>mlen_bd hv y (by omega))
 refine⟨fun hlt=>?_,fun hge=>?_⟩
 ·refine vcall (hM R1 hle1 ((k:Int)+1) (by unfold I64;omega)) ?_
  rintro R2 r hle2 rfl
  rw[ze0 hv y (by omega),show((k:Int)+1-1).toNat=k by omega]
  have hml:=mlen_bd hv y (i:=k) (by omega)
  try simp only[go_sem,↓reduceIte,Qa,Qb,Qe,Qf,e11,e4,e7,e2]
  exact⟨_,W.in64 (by omega),_,W.in64 (by omega),k+1,by omega,⟨by push_cast;rfl,by simp only[sumTo,Int.add_assoc]⟩,by omega⟩
 ·obtain rfl:k=(mo-1).toNat:=by omega
  obtain⟨r,hr0⟩:∃r:Yr,r=⟨mo,wk,wd,mi,of⟩:=⟨_,rfl⟩
  have hB:begin+sumTo (c.mlen y) (mo-1).toNat=ydB c begin y r:=by rw[hr0];rfl
  have hE2:ydB c begin y r+c.mlen y (mo-1).toNat=ydE c begin y r:=by rw[hr0];rfl
  rw[←hr0] at hyd ⊢
  rw[hB] at e10
  obtain⟨b,hb0⟩:∃b,b=ydB c begin y r:=⟨_,rfl⟩
  obtain⟨e,he0⟩:∃e,e=ydE c begin y r:=⟨_,rfl⟩
  have hA:ydA c begin y r=if wk=5 then(e-1-(e-1-wd)%7,decide (b≤e-1-(e-1-wd)%7)) else(b+(wd-b)%7+7*(wk-1),decide (b+(wd-b)%7+7*(wk-1)<e)):=by
   unfold ydA;rw[hb0,he0,hr0]
  rw[←hb0,←he0] at hyd
  rw[←hb0] at e10 hE2
  rw[←he0] at hE2
  rw[hA]
  try simp only[go_sem,↓reduceIte,Qa,Qb,Qc,Qd,Qe,Qf,reduceCtorEq,e11,e10,e4,e7,e2]
  rw[show begin+sumTo (c.mlen y) (mo-1).toNat=b by rw[hB,←hb0]]
  refine zaj (Int×Nat×Int) (fun x=>[(14,.val (.int .i64 x.1)),(12,.val (.int .i64 x.2.1)),(13,.val (.int .i64 x.2.2)),(10,.val (.int .i64 b)),(4,.loc 0 0),(7,.loc 1 0),(2,.val (.int .i64 y))])
   (fun _=>[.box [.val (.int .i64 c.epoch),.val (.slice am c.months.length cm),.val (.int .i64 c.leap),.val (.slice ar c.rules.length cr)],.box [.val (.int .i64 mo),.val (.int .i64 wk),.val (.int .i64 wd),.val (.int .i64 mi),.val (.int .i64 of)]])
   (fun x _=>(b≤x.1∧x.1≤e∧(x.2.1:Int)≤x.1-b)∧(wk=1→(∀d,b≤d→d<x.1→d%7≠wd)∧x.2.1=0∧x.2.2 = -1) ∧
    (wk=5→(x.2.2 = -1∧∀d,b≤d→d<x.1→d%7≠wd)∨(b≤x.2.2∧x.2.2<x.1∧x.2.2%7=wd∧∀d,x.2.2<d→d<x.1→d%7≠wd))) (fun x=>(e-x.1).toNat) (b,0,-1) ?_ ?_ ?_ ?_
  ·try simp only[go_sem,↓reduceIte,Qa,Qb,e10,e4,e7,e2]
   rfl
  ·try simp only[go_sem,Qb,Qe,Qf]
  ·exact⟨⟨Int.le_refl _,by omega,by simp⟩,fun _=>⟨fun d h1 h2=>absurd h1 (by dsimp only at h2;omega),rfl,rfl⟩,fun _ => .inl ⟨rfl,fun d h1 h2=>absurd h1 (by dsimp only at h2;omega)⟩⟩
  rintro⟨d,n,la⟩ env R2 hle2 hE ⟨⟨h1,h2,h3⟩,h4,h5⟩
  dsimp only at h1 h2 h3 h4 h5
  (simp only[go_sem] at hE;obtain⟨e14,e12,e13,e10',e4',e7',e2'⟩:=hE;simp only[go_sem,↓reduceIte,Qa,Qb,e14,e10',e4',e7',e2'];dsimp only at *)
  refine vcall (hM R2 (RO.le_trans hle1 hle2) mo (by unfold I64;omega)) ?_
  rintro R3 r' hle3 rfl
  rw[ze0 hv y (by omega)]
  try simp only[go_sem,↓reduceIte,Qa,Qb,Qe,Qf,e14,e12,e13,e10',e4',e7',e2']
  refine⟨_,W.in64 (by omega),?_⟩
  rw[hE2]
  refine⟨fun hlt=>?_,fun hge=>?_⟩
  ·rw[Int.tmod_eq_emod_of_nonneg (by omega:0≤d)]
   refine⟨by decide,fun hm7=>?_,fun hm7=>?_⟩
   ·refine⟨_,W.in64 (by omega),fun hn=>⟨fun hlt5=>?_,fun hge5=>?_⟩,fun hn=>?_⟩
    ·obtain rfl:wk=1:=by omega
     have hf:=znW (b:=b) hd h1 (h4 rfl).1 hm7
     rw[if_neg (by decide)]
     dsimp only
     rw[Int.sub_self,Int.mul_zero,Int.add_zero,hf]
     exact⟨d,by rw[decide_eq_true hlt],fun _=>rfl⟩
    ·obtain rfl:wk=5:=by omega
     refine⟨_,W.in64 (by omega),(d+1,n+1,d),by dsimp only;omega,⟨rfl,rfl,rfl⟩,⟨by dsimp only;omega,by dsimp only;omega,by dsimp only;omega⟩,fun h=>absurd h (by decide),fun _ => .inr ⟨h1,by dsimp only;omega,hm7,fun x hx1 hx2=>by dsimp only at hx1 hx2;omega⟩⟩
    ·have hw:wk=5:=by
      rcases hw5 with h|h
      ·have:=(h4 h).2.1;omega
      ·exact h
     refine⟨_,W.in64 (by omega),(d+1,n+1,d),by dsimp only;omega,⟨rfl,rfl,rfl⟩,⟨by dsimp only;omega,by dsimp only;omega,by dsimp only;omega⟩,fun h=>absurd h (by omega),fun _ => .inr ⟨h1,by dsimp only;omega,hm7,fun x hx1 hx2=>by dsimp only at hx1 hx2;omega⟩⟩
   ·refine⟨_,W.in64 (by omega),(d+1,n,la),by dsimp only;omega,⟨rfl,rfl,rfl⟩,⟨by dsimp only;omega,by dsimp only;omega,by dsimp only;omega⟩,fun h=>⟨fun x hx1 hx2=>?_,(h4 h).2⟩,fun h=>?_⟩
    ·rcases Int.lt_or_le x d with hx|hx
     ·exact(h4 h).1 x hx1 hx
     ·obtain rfl:x=d:=by dsimp only at hx2;omega
      exact hm7
    ·rcases h5 h with⟨g1,g2⟩|⟨g1,g2,g3,g4⟩
     ·refine .inl ⟨g1,fun x hx1 hx2=>?_⟩
      rcases Int.lt_or_le x d with hx|hx
      ·exact g2 x hx1 hx
      ·obtain rfl:x=d:=by dsimp only at hx2;omega
       exact hm7
     ·refine .inr ⟨g1,by dsimp only;omega,g3,fun x hx1 hx2=>?_⟩
      rcases Int.lt_or_le x d with hx|hx
      ·exact g4 x hx1 hx
      ·obtain rfl:x=d:=by dsimp only at hx2;omega
       exact hm7
  ·obtain rfl:d=e:=by omega
   refine⟨fun hw=>?_,fun hw=>?_⟩
   ·subst hw
    rw[if_pos rfl]
    dsimp only
    rcases h5 rfl with⟨g1,g2⟩|⟨g1,g2,g3,g4⟩
    ·have:=ziB hd g2
     exact⟨la,by rw[decide_eq_false this,decide_eq_false (by omega)],fun h=>absurd (of_decide_eq_true h) this⟩
    ·have:=zp3 hd g2 g4 g3
     rw[this]
     exact⟨la,by rw[decide_eq_true g1,decide_eq_true (by omega)],fun _=>rfl⟩
   ·obtain rfl:wk=1:=by omega
    have:=zp2 hd (h4 rfl).1
    rw[if_neg (by decide)]
    dsimp only
    rw[Int.sub_self,Int.mul_zero,Int.add_zero,decide_eq_false this]
    exact⟨la,rfl,fun h=>absurd h (by decide)⟩
def fstP:List Tr→Int
 |[]=>0
 |x::_=>x.pos
def zaA(L:List Tr)(cyc t:Int):Int:=(max (t-fstP L) 0)/(cyc*1440)
def nextT(L:List Tr)(cyc t:Int):Int:=match L.find? (fun x=>decide (t≤x.pos+zaA L cyc t*(cyc*1440))) with
 |some x=>x.pos+zaA L cyc t*(cyc*1440)
 |none=>fstP L+(zaA L cyc t+1)*(cyc*1440)
theorem ze1{L:List Tr}(h:0<L.length):(L[0]'h).pos=fstP L:=by
 cases L with
 |nil=>simp at h
 |cons x r=>rfl
theorem zdr{L:List Tr}{cyc t:Int}(hc:1≤cyc):0≤zaA L cyc t:=Int.ediv_nonneg (by omega) (by omega)
theorem zhF{L:List Tr}{cyc t:Int}(hc:1≤cyc)(ht:fstP L≤t):zaA L cyc t*(cyc*1440)≤t-fstP L:=by
 unfold zaA
 have:=Int.ediv_mul_le (max (t-fstP L) 0) (show cyc*1440≠0 by omega)
 omega
theorem zfs{L:List Tr}{cyc t:Int}(hc:1≤cyc):t<fstP L+(zaA L cyc t+1)*(cyc*1440):=by
 unfold zaA
 have:=Int.lt_ediv_add_one_mul_self (max (t-fstP L) 0) (show 0<cyc*1440 by omega)
 omega
theorem zdO{L:List Tr}{cyc t:Int}(ht:t≤fstP L):zaA L cyc t=0:=by
 unfold zaA
 rw[show max (t-fstP L) 0=0 by omega]
 simp
theorem zhG{L:List Tr}{cyc t:Int}(hc:1≤cyc∧cyc≤1836800)(hf : -4503599627370496≤fstP L∧fstP L≤4503599627370496)(ht : -4503599627370496≤t∧t≤4503599627370496) :
  zaA L cyc t≤9007199254740992∧0≤zaA L cyc t*(cyc*1440)∧zaA L cyc t*(cyc*1440)≤9007199254740992:=by
 have h0:=zdr (L:=L) (t:=t) hc.1
 have h2:0≤zaA L cyc t*(cyc*1440):=Int.mul_nonneg h0 (by omega)
 have h3:zaA L cyc t*(cyc*1440)≤9007199254740992:=by
  rcases Int.le_total (fstP L) t with h|h
  ·have:=zhF (L:=L) (t:=t) hc.1 h;omega
  ·rw[zdO h];simp
 refine⟨?_,h2,h3⟩
 rcases Int.lt_or_le 9007199254740992 (zaA L cyc t) with h|h
 ·have:zaA L cyc t*1≤zaA L cyc t*(cyc*1440):=Int.mul_le_mul_of_nonneg_left (by omega) h0
  omega
 ·exact h
theorem zp4{L:List Tr}{p:Tr→Bool}{i:Nat}(hi:i<L.length)(h1:p L[i]=true)(h2:∀j (h:j<L.length),j<i→p L[j]=false):L.find? p=some L[i]:=by
 rw[List.find?_eq_some_iff_getElem]
 exact⟨h1,i,hi,rfl,fun j hj=>by simpa using h2 j (by omega) hj⟩
theorem zft{L:List Tr}{cyc t k:Int}{i:Nat}(hc:1≤cyc)(hk:k=zaA L cyc t∨k=zaA L cyc t+1∧∀x∈L,x.pos+zaA L cyc t*(cyc*1440)<t)(hi:i<L.length)(h1:t≤L[i].pos+k*(cyc*1440))(h2:∀j (h:j<L.length),j<i→L[j].pos+k*(cyc*1440)<t) :
  L[i].pos+k*(cyc*1440)=nextT L cyc t:=by
 unfold nextT
 rcases hk with rfl|⟨rfl,hn⟩
 ·rw[zp4 hi (by simpa using h1) (fun j hj hji=>by have:=h2 j hj hji;simp;omega)]
 ·have hno:L.find? (fun x=>decide (t≤x.pos+zaA L cyc t*(cyc*1440)))=none:=by
   rw[List.find?_eq_none]
   intro x hx
   have:=hn x hx
   simp;omega
  rw[hno]
  dsimp only
  rcases Nat.eq_zero_or_pos i with rfl|h0
  ·rw[ze1 hi]
  ·have h3:=h2 0 (by omega) h0
   have h4:=zfs (L:=L) (t:=t) hc
   rw[ze1 (by omega)] at h3
   omega
set_option maxHeartbeats 2000000 in
theorem zpq(L:List Tr)(v:Value)(R:RO)(h:TrV R v L)(cyc t:Int)(hc:1≤cyc∧cyc≤1836800)(ht : -2251799813685248≤t∧t≤2251799813685248)(hp:∀x∈L,-2251799813685248≤x.pos∧x.pos≤2251799813685248) :
  zaa Tryz.prog 53 [v,.int .i64 cyc,.int .i64 t] R fun _ r=>(L=[]∧r = .tuple #[.agg #[.int .i64 0,.int .i64 0],.bool false])∨(L≠[]∧∃o:Int,r = .tuple #[.agg #[.int .i64 (nextT L cyc t),.int .i64 o],.bool true]):=by
 have hll:=h.2
 obtain⟨a,cap,rfl,hcap,hf⟩:=h.form
 refine zac mix Tryz.func53 comp53 (by simp[Tryz.ntmps53]) ?_;simp only[go_sem,↓reduceIte,Qa,Qb,reduceCtorEq,vc53,rs53]
 refine⟨fun h0=>?_,fun h0=>?_⟩
 ·have hL:L=[]:=List.eq_nil_of_length_eq_zero (by omega)
  first|exact .inl ⟨hL,rfl⟩|exact .inl hL|exact hL
 have hpos:0<L.length:=by omega
 have hne:L≠[]:=fun e=>by rw[e] at hpos;simp at hpos
 obtain⟨ad,had,hR⟩:=hf 0 hpos
 have hp0:=hp L[0] (List.getElem_mem _)
 have hfe:=ze1 hpos
 have hfst : -4503599627370496≤fstP L∧fstP L≤4503599627370496:=by omega
 have hb:=zhG (L:=L) (t:=t) hc hfst (by omega)
 refine⟨_,W.in64 (by omega),?_⟩
 have hT:=zfs (L:=L) (t:=t) hc.1
 have hT0:=zdr (L:=L) (t:=t) hc.1
 refine⟨by omega,by omega,vat ad had ?_⟩
 try simp only[go_sem,↓reduceIte]
 refine vload (.int .i64 L[0].pos) (by have:=hR 0 _ rfl;rwa [Addr.add_zero'] at this) ?_
 try simp only[go_sem,↓reduceIte,Qa,reduceCtorEq]
 refine⟨fun h1=>?_,fun h1=>?_⟩
 ·refine⟨by omega,by omega,vat ad had ?_⟩
  try simp only[go_sem,↓reduceIte]
  refine vload (.int .i64 L[0].pos) (by have:=hR 0 _ rfl;rwa [Addr.add_zero'] at this) ?_
  try simp only[go_sem,↓reduceIte,Qa]
  have hq:(t-L[0].pos).tdiv (cyc*1440)=zaA L cyc t:=by
   unfold zaA
   rw[show max (t-fstP L) 0=t-L[0].pos by omega,Int.tdiv_eq_ediv_of_nonneg (by omega)]
  refine⟨_,W.in64 (by omega),by omega,?_⟩
  rw[hq]
  refine⟨_,W.in64 (by omega),?_⟩
  obtain⟨T,hTe⟩:∃T,T=zaA L cyc t:=⟨_,rfl⟩
  rw[←hTe]
  have hq':zaA L cyc t=T:=hTe.symm
  rw[hq'] at hb hT hT0
  refine zaj Int (fun k=>[(10,.val (.int .i64 k)),(8,.val (.int .i64 (cyc*1440))),(0,.val (.slice a L.length cap)),(2,.val (.int .i64 t)),(6,.loc 0 0)])
   (fun _=>[.box [.val (.int .i64 0),.val (.int .i64 0)]]) (fun k _=>k=T∨k=T+1∧∀x∈L,x.pos+T*(cyc*1440)<t) (fun k=>(T+2-k).toNat) T ?_ ?_ ?_ ?_
  ·(try simp only[go_sem,↓reduceIte,Qa,reduceCtorEq])<;>(repeat' (first|rfl|trivial|constructor|(intro h;exact absurd rfl h)))
  ·try simp only[go_sem,Qe,Qf]
  ·exact .inl rfl
  rintro k env R1 hle1 hE hk
  (simp only[go_sem] at hE;obtain⟨e10,e8,e0,e2,e6⟩:=hE;simp only[go_sem,Qb];dsimp only at *)
  have hkb:0≤k∧k≤9007199254740993:=by omega
  have hks:0≤k*(cyc*1440)∧k*(cyc*1440)≤9007199254740992+2644992000:=by
   rcases hk with h|⟨h,_⟩
   ·rw[h];omega
   ·rw[h,Int.add_mul,Int.one_mul];omega
  refine zaj Nat (fun i=>[(11,.val (.int .i64 i)),(10,.val (.int .i64 k)),(8,.val (.int .i64 (cyc*1440))),(0,.val (.slice a L.length cap)),(2,.val (.int .i64 t)),(6,.loc 0 0)])
   (fun _=>[.box [.val (.int .i64 0),.val (.int .i64 0)]]) (fun i _=>i≤L.length∧∀j (h:j<L.length),j<i→L[j].pos+k*(cyc*1440)<t) (fun i=>L.length-i) 0 ?_ ?_ ?_ ?_
  ·try simp only[go_sem,↓reduceIte,Qa,reduceCtorEq,e10,e8,e0,e2,e6]
   rfl
  ·try simp only[go_sem,Qe,Qf]
  ·exact⟨Nat.zero_le _,fun j _ h=>absurd h (by omega)⟩
  rintro i env R2 hle2 hE ⟨hi,hj⟩
  (simp only[go_sem] at hE;obtain⟨e11,e10',e8',e0',e2',e6'⟩:=hE;simp only[go_sem,↓reduceIte,Qa,Qb,Qe,Qf,reduceCtorEq,e11,e10',e8',e0',e2',e6'];dsimp only at *)
  refine⟨fun hlt=>?_,fun hge=>?_⟩
  ·have hlt':i<L.length:=by omega
   obtain⟨ad',had',hR'⟩:=hf i hlt'
   have hpi:=hp L[i] (List.getElem_mem _)
   have ld0:=hle2 _ _ (hle1 _ _ (hR' 0 _ rfl))
   rw[Addr.add_zero'] at ld0
   have ld1:=hle2 _ _ (hle1 _ _ (hR' 1 _ rfl))
   refine⟨by omega,vat ad' had' ?_⟩
   try simp only[go_sem,↓reduceIte]
   refine vload (.int .i64 L[i].pos) ld0 ?_
   try simp only[go_sem,↓reduceIte,Qa,Qe,Qf,reduceCtorEq,e11,e10',e8',e0',e2',e6']
   refine⟨_,W.in64 (by omega),_,W.in64 (by omega),fun hge=>?_,fun hnge=>?_⟩
   ·refine⟨by omega,vat ad' had' ?_⟩
    try simp only[go_sem,↓reduceIte]
    refine vload (.int .i64 L[i].pos) ld0 ?_
    try simp only[go_sem,↓reduceIte,Qa,reduceCtorEq,e11,e10',e8',e0']
    refine⟨_,W.in64 (by omega),_,W.in64 (by omega),⟨by omega,vat ad' had' ?_⟩⟩
    try simp only[go_sem,↓reduceIte]
    refine vload (.int .i64 L[i].off) ld1 ?_
    try simp only[go_sem,↓reduceIte,Qa,Qb,Qd,e6']
    have hn:=zft (t:=t) hc.1 (by rw[hq'];exact hk) hlt' (by omega) hj
    rw[hn]
    exact .inr ⟨hne,_,rfl⟩
   ·refine⟨_,W.in64 (by omega),i+1,by omega,by norm_cast,by omega,fun j hjl hji=>?_⟩
    rcases Nat.lt_or_ge j i with h|h
    ·exact hj j hjl h
    ·obtain rfl:j=i:=by omega
     omega
  ·obtain rfl:i=L.length:=by omega
   have hkT:k=T:=by
    rcases hk with h|⟨h,_⟩
    ·exact h
    ·have:=hj 0 hpos hpos
     rw[←hfe,h] at *
     omega
   subst hkT
   refine⟨_,W.in64 (by omega),k+1,by omega,by norm_cast,.inr ⟨rfl,fun x hx=>?_⟩⟩
   obtain⟨j,hjl,rfl⟩:=List.mem_iff_getElem.1 hx
   exact hj j hjl hjl
 ·have hq:zaA L cyc t=0:=zdO (by omega)
  have hq':zaA L cyc t=0:=hq
  rw[hq'] at hb hT hT0
  refine zaj Int (fun k=>[(10,.val (.int .i64 k)),(8,.val (.int .i64 (cyc*1440))),(0,.val (.slice a L.length cap)),(2,.val (.int .i64 t)),(6,.loc 0 0)])
   (fun _=>[.box [.val (.int .i64 0),.val (.int .i64 0)]]) (fun k _=>k=(0:Int)∨k=(0:Int)+1∧∀x∈L,x.pos+(0:Int)*(cyc*1440)<t) (fun k=>((0:Int)+2-k).toNat) (0:Int) ?_ ?_ ?_ ?_
  ·(try simp only[go_sem,↓reduceIte,Qa,reduceCtorEq])<;>(repeat' (first|rfl|trivial|constructor|(intro h;exact absurd rfl h)))
  ·try simp only[go_sem,Qe,Qf]
  ·exact .inl rfl
  rintro k env R1 hle1 hE hk
  (simp only[go_sem] at hE;obtain⟨e10,e8,e0,e2,e6⟩:=hE;simp only[go_sem,Qb];dsimp only at *)
  have hkb:0≤k∧k≤9007199254740993:=by omega
  have hks:0≤k*(cyc*1440)∧k*(cyc*1440)≤9007199254740992+2644992000:=by
   rcases hk with h|⟨h,_⟩
   ·rw[h];omega
   ·rw[h,Int.add_mul,Int.one_mul];omega
  refine zaj Nat (fun i=>[(11,.val (.int .i64 i)),(10,.val (.int .i64 k)),(8,.val (.int .i64 (cyc*1440))),(0,.val (.slice a L.length cap)),(2,.val (.int .i64 t)),(6,.loc 0 0)])
   (fun _=>[.box [.val (.int .i64 0),.val (.int .i64 0)]]) (fun i _=>i≤L.length∧∀j (h:j<L.length),j<i→L[j].pos+k*(cyc*1440)<t) (fun i=>L.length-i) 0 ?_ ?_ ?_ ?_
  ·try simp only[go_sem,↓reduceIte,Qa,reduceCtorEq,e10,e8,e0,e2,e6]
   rfl
  ·try simp only[go_sem,Qe,Qf]
  ·exact⟨Nat.zero_le _,fun j _ h=>absurd h (by omega)⟩
  rintro i env R2 hle2 hE ⟨hi,hj⟩
  (simp only[go_sem] at hE;obtain⟨e11,e10',e8',e0',e2',e6'⟩:=hE;simp only[go_sem,↓reduceIte,Qa,Qb,Qe,Qf,reduceCtorEq,e11,e10',e8',e0',e2',e6'];dsimp only at *)
  refine⟨fun hlt=>?_,fun hge=>?_⟩
  ·have hlt':i<L.length:=by omega
   obtain⟨ad',had',hR'⟩:=hf i hlt'
   have hpi:=hp L[i] (List.getElem_mem _)
   have ld0:=hle2 _ _ (hle1 _ _ (hR' 0 _ rfl))
   rw[Addr.add_zero'] at ld0
   have ld1:=hle2 _ _ (hle1 _ _ (hR' 1 _ rfl))
   refine⟨by omega,vat ad' had' ?_⟩
   try simp only[go_sem,↓reduceIte]
   refine vload (.int .i64 L[i].pos) ld0 ?_
   try simp only[go_sem,↓reduceIte,Qa,Qe,Qf,reduceCtorEq,e11,e10',e8',e0',e2',e6']
   refine⟨_,W.in64 (by omega),_,W.in64 (by omega),fun hge=>?_,fun hnge=>?_⟩
   ·refine⟨by omega,vat ad' had' ?_⟩
    try simp only[go_sem,↓reduceIte]
    refine vload (.int .i64 L[i].pos) ld0 ?_
    try simp only[go_sem,↓reduceIte,Qa,reduceCtorEq,e11,e10',e8',e0']
    refine⟨_,W.in64 (by omega),_,W.in64 (by omega),⟨by omega,vat ad' had' ?_⟩⟩
    try simp only[go_sem,↓reduceIte]
    refine vload (.int .i64 L[i].off) ld1 ?_
    try simp only[go_sem,↓reduceIte,Qa,Qb,Qd,e6']
    have hn:=zft (t:=t) hc.1 (by rw[hq'];exact hk) hlt' (by omega) hj
    rw[hn]
    exact .inr ⟨hne,_,rfl⟩
   ·refine⟨_,W.in64 (by omega),i+1,by omega,by norm_cast,by omega,fun j hjl hji=>?_⟩
    rcases Nat.lt_or_ge j i with h|h
    ·exact hj j hjl h
    ·obtain rfl:j=i:=by omega
     omega
  ·obtain rfl:i=L.length:=by omega
   have hkT:k=(0:Int):=by
    rcases hk with h|⟨h,_⟩
    ·exact h
    ·have:=hj 0 hpos hpos
     rw[←hfe,h] at *
     omega
   subst hkT
   refine⟨_,W.in64 (by omega),1,by omega,by norm_cast,.inr ⟨rfl,fun x hx=>?_⟩⟩
   obtain⟨j,hjl,rfl⟩:=List.mem_iff_getElem.1 hx
   exact hj j hjl hjl
structure Zn where
 cal:Cal
 start:Int
 trans:List Tr
 hor:Int
 yearly:List Yr
structure ZnIn (R:RO) (z:Zv) (n:Zn):Prop where
 ep:z.ep=n.cal.epoch
 leap:z.leap=n.cal.leap
 cal:CalIn R n.cal (.slice z.ma z.mn z.mc) (.slice z.ra z.rn z.rc)
 start:z.start=n.start
 hor:z.hor=n.hor
 trans:TrV R (.slice z.ta z.tn z.tc) n.trans
 yearly:EncV Yr.cells 5 R (.slice z.ya z.yn z.yc) n.yearly
theorem ZnIn.mono{R R':RO}{z:Zv}{n:Zn}(h:ZnIn R z n)(hle:RO.le R R'):ZnIn R' z n :=
 ⟨h.ep,h.leap,h.cal.mono hle,h.start,h.hor,h.trans.mono hle,h.yearly.mono hle⟩
theorem EncV.slen{α:Type}{enc:α→List Value}{k:Nat}{R:RO}{a:Option Addr}{n c:Nat}{xs:List α}(h:EncV enc k R (.slice a n c) xs):n=xs.length:=by
 obtain⟨a',c',e,_,_⟩:=h.form
 simp only[Value.slice.injEq] at e
 exact e.2.1
theorem zjz(z:Zv)(n:Zn)(R:RO)(h:ZnIn R z n)(hv:n.cal.valid):zaa Tryz.prog 54 [.agg z.cells.toArray] R fun _ v=>v = .int .i64 (if n.yearly=[] then 1 else cycD n.cal):=by
 have hyl:=h.yearly.slen
 have hep:=h.ep
 have hlp:=h.leap
 have hC:=fun R' (hle:RO.le R R')=>zri n.cal _ _ R' (h.cal.mono hle)
 obtain⟨ep,ma,mn,mc,lp,ra,rn,rc,st,ta,tn,tc,ho,ya,yn,yc⟩:=z
 dsimp only at hyl hep hlp hC
 subst hep hlp
 simp only[Zv.cells,cv,cycA,if_pos hv] at hC ⊢
 refine zac mix Tryz.func54 comp54 (by simp[Tryz.ntmps54]) ?_;simp only[go_sem,↓reduceIte,Qa,Qb,vc54,rs54]
 have hdb:=hv.days_bd
 have hpp:=hv.per.2.1
 refine⟨fun h0=>?_,fun h0=>?_⟩
 ·rw[if_pos (List.eq_nil_of_length_eq_zero (by omega))]
 rw[if_neg (fun e=>h0 (by rw[hyl,e];rfl))]
 refine vcall (hC R (RO.le_refl R)) ?_
 rintro R1 r hle1 rfl
 try simp only[go_sem,↓reduceIte,Qa,Je]
 rw[Int.tmod_eq_emod_of_nonneg (by omega:0≤n.cal.days)]
 unfold cycD
 refine⟨fun h7=>⟨_,W.in64 (by omega),?_⟩,fun h7=>?_⟩
 ·rw[if_neg h7,Int.mul_comm]
 ·rw[if_pos (by omega)]
def zjA(R:RO)(v:Value)(n:Zn):Prop:=match n.yearly with
 |[r0,r1]=>∃L u,v = .tuple #[u,.bool (decide (Far L (cycD n.cal)))]∧TrV R u L∧L.Perm (unsT n.cal r0 r1)∧Sor L
 |_=>∃u,v = .tuple #[u,.bool true]∧TrV R u []
def partY(c:Cal)(r0 r1:Yr)(begin y:Int)(k:Nat):List Tr:=if k=0 then[] else if k=1 then yr1 c begin y r0 r1 else yrT c r0 r1 begin y
theorem zgv(c:Cal)(r0 r1:Yr)(begin y:Int)(k:Nat)(hk:k<2)(h1:k<[r0,r1].length)(h2:1-k<[r0,r1].length):partY c r0 r1 begin y (k+1)=partY c r0 r1 begin y k++yr1 c begin y [r0,r1][k] [r0,r1][1-k]:=by
 rcases(by omega:k=0∨k=1) with rfl|rfl<;>simp[partY,yrT]
theorem zpr{c:Cal}(hv:c.valid){r0 r1:Yr}(h0:YrOK c r0)(h1:YrOK c r1)(e:Int)(he:e≤3000000):∀(f:Nat) (begin y:Int) (out:List Tr),0≤begin→(∀x∈out,-10000000000≤x.pos∧x.pos≤10000000000)→∀x∈goY c r0 r1 e f begin y out,-10000000000≤x.pos∧x.pos≤10000000000
 |0,_,_,_,_,ho,x,hx=>ho x hx
 |f+1,begin,y,out,hb,ho,x,hx=>by
  rw[goY] at hx
  split at hx
  ·have hyl:=hv.ylen_bd y
   refine zpr hv h0 h1 e he f _ _ _ (by omega) (fun x hx=>?_) x hx
   rcases List.mem_append.1 hx with hx|hx
   ·exact ho x hx
   ·have b0:=zjv hv begin y h0
    have b1:=zjv hv begin y h1
    have m0:=h0.minute
    have m1:=h1.minute
    have o0:=h0.off
    have o1:=h1.off
    rcases List.mem_append.1 hx with hx|hx<;>unfold yr1 at hx<;>split at hx<;>simp only[List.mem_singleton,List.not_mem_nil] at hx<;>subst hx<;>dsimp only<;>omega
  ·exact ho x hx
theorem zfu{c:Cal}(hv:c.valid){r0 r1:Yr}(h0:YrOK c r0)(h1:YrOK c r1):∀x∈unsT c r0 r1,-10000000000≤x.pos∧x.pos≤10000000000:=by
 have h2:=hv.1
 have hdb:=hv.days_bd
 have hpp:=hv.per.2.1
 have h3:=zdM (c:=c) (by omega)
 exact zpr hv h0 h1 _ (by omega) _ _ _ _ (by omega) (by simp)
set_option maxHeartbeats 4000000 in
theorem zp5(z:Zv)(n:Zn)(R:RO)(h:ZnIn R z n)(hv:n.cal.valid)(hy:n.yearly=[]∨∃r0 r1,n.yearly=[r0,r1]∧(YrOK n.cal r0∧(r0.week=1∨r0.week=5))∧(YrOK n.cal r1∧(r1.week=1∨r1.week=5))) :
  zaa Tryz.prog 52 [.agg z.cells.toArray] R fun R' v=>zjA R' v n:=by
 have hyl:=h.yearly.slen
 have hep:=h.ep
 have hlp:=h.leap
 have hyr:=h.yearly
 have hcal:=h.cal
 have hCy:=fun R' (hle:RO.le R R')=>zjz z n R' (h.mono hle) hv
 have hF:=fun R' (hle:RO.le R R')=>rFind n.cal hv _ _ R' (h.cal.mono hle)
 have hYL:=fun R' (hle:RO.le R R')=>zfp n.cal _ _ R' (h.cal.mono hle)
 obtain⟨ep,ma,mn,mc,lp,ra,rln,rc,st,ta,tn,tc,ho,ya,yn,yc⟩:=z
 obtain⟨c,nst,ntr,nho,nyl⟩:=n
 dsimp only at hyl hep hlp hyr hF hYL hcal hv hy hCy
 subst hep hlp
 simp only[Zv.cells,cv] at hCy hF hYL ⊢
 have hdb:=hv.days_bd
 have hpp:=hv.per.2.1
 have hcb:=zdM (c:=c) (by omega)
 have hepb:=hv.1
 refine zac mix Tryz.func52 comp52 (by simp[Tryz.ntmps52]) ?_;simp only[go_sem,↓reduceIte,Qa,Qb,vc52,rs52]
 unfold zjA
 dsimp only
 refine⟨fun h0=>?_,fun h0=>?_⟩
 ·have he:nyl=[]:=List.eq_nil_of_length_eq_zero (by omega)
  rw[he]
  intro b cap R' hle hrow hcap hfr
  try simp only[go_sem]
  exact⟨_,rfl,⟨some ⟨b,0,none⟩,cap,rfl,Nat.zero_le _,by simp⟩,by simp⟩
 have hy2:=hy.resolve_left (fun e=>h0 (by rw[hyl,e];rfl))
 obtain⟨r0,r1,hye,⟨hr0,hw0⟩,⟨hr1,hw1⟩⟩:=hy2
 rw[hye] at hyr hyl ⊢
 obtain rfl:yn=2:=hyl
 rw[hye] at hCy
 obtain⟨ya',yc',hyE,hyc,hyf⟩:=hyr.form
 simp only[Value.slice.injEq] at hyE
 obtain⟨rfl,_,rfl⟩:=hyE
 simp only[List.length_cons,List.length_nil,Nat.zero_add,Qb] at hyf
 refine vcall (hCy R (RO.le_refl R)) ?_
 rintro R1 r hle1 rfl
 rw[if_neg (by simp)]
 try simp only[go_sem,↓reduceIte,Qa,Jd,Je]
 have hU:goY c r0 r1 (c.epoch+cycD c) (cycD c+1).toNat c.epoch 1 []=unsT c r0 r1:=rfl
 refine zal (Nat×Int×Int×List Tr×List Tr) (fun x=>[(6,.val (.int .i64 x.2.1)),(7,.val (.int .i64 x.2.2.1)),(5,.val (.int .i64 (cycD c))),(1,.loc 0 0),(4,.sl 1 x.2.2.2.2.length)])
  (fun x=>[.box [.val (.int .i64 c.epoch),.val (.slice ma mn mc),.val (.int .i64 c.leap),.val (.slice ra rln rc),.val (.int .i64 st),.val (.slice ta tn tc),.val (.int .i64 ho),.val (.slice ya 2 yc)],.row 95 2 (rowTr x.2.2.2.2)])
  (fun x _=>(goY c r0 r1 (c.epoch+cycD c) x.1 x.2.1 x.2.2.1 x.2.2.2.1=unsT c r0 r1∧x.2.2.2.2.Perm x.2.2.2.1∧Sor x.2.2.2.2)∧(c.epoch≤x.2.1∧x.2.1≤c.epoch+cycD c+656)∧(1≤x.2.2.1∧x.2.2.1≤x.2.1+1)∧(x.2.2.2.2.length:Int)≤2*(x.2.2.1-1)∧(c.epoch+cycD c-x.2.1).toNat<x.1)
  (fun x=>(c.epoch+cycD c-x.2.1).toNat) ((cycD c+1).toNat,c.epoch,1,[],[]) [] ?_ ?_ ?_ ?_
 ·(try simp only[go_sem,↓reduceIte,Qa,Qb])<;>(repeat' (first|rfl|trivial|constructor|(intro h;exact absurd rfl h)))
 ·try simp only[go_sem,Qb,Qe,Qf]
 ·exact⟨⟨hU,List.Perm.refl _,List.Pairwise.nil⟩,⟨Int.le_refl _,by dsimp only;omega⟩,⟨by dsimp only;omega,by dsimp only;omega⟩,by simp,by dsimp only;omega⟩
 rintro⟨f,begin,y,U,out⟩ env R2 hle2 hE ⟨⟨h1,h2,h3⟩,⟨h4,h5⟩,⟨h6,h7⟩,h8,h9⟩
 dsimp only at h1 h2 h3 h4 h5 h6 h7 h8 h9
 (simp only[go_sem] at hE;obtain⟨e6,e7,e5,e1,e4⟩:=hE;simp only[go_sem,↓reduceIte,Qa,Qb,e6,e5,e1];dsimp only at *)
 refine⟨_,W.in64 (by omega),fun hlt=>?_,fun hge=>?_⟩
 ·have hall:∀i (h:i<[r0,r1].length),YrOK c [r0,r1][i]∧([r0,r1][i].week=1∨[r0,r1][i].week=5):=fun i hi=>by
   rcases(by simp only[List.length_cons,List.length_nil] at hi;omega:i=0∨i=1) with rfl|rfl
   ·exact⟨hr0,hw0⟩
   ·exact⟨hr1,hw1⟩
  refine zal (Nat×List Tr) (fun x=>[(8,.val (.int .i64 x.1)),(6,.val (.int .i64 begin)),(7,.val (.int .i64 y)),(5,.val (.int .i64 (cycD c))),(1,.loc 0 0),(4,.sl 1 x.2.length)])
   (fun x=>[.box [.val (.int .i64 c.epoch),.val (.slice ma mn mc),.val (.int .i64 c.leap),.val (.slice ra rln rc),.val (.int .i64 st),.val (.slice ta tn tc),.val (.int .i64 ho),.val (.slice ya 2 yc)],.row 95 2 (rowTr x.2)])
   (fun x _=>x.1≤2∧x.2.Perm (U++partY c r0 r1 begin y x.1)∧Sor x.2∧(x.2.length:Int)≤2*(y-1)+x.1) (fun x=>2-x.1) (0,out) [] ?_ ?_ ?_ ?_
  ·try simp only[go_sem,↓reduceIte,Qa,Qb,e6,e7,e5,e1,e4]
   rfl
  ·try simp only[go_sem,Qb,Qe,Qf]
  ·exact⟨by omega,by simpa[partY] using h2,h3,by simpa using h8⟩
  rintro⟨k,o⟩ env R3 hle3 hE ⟨g1,g2,g3,g4⟩
  dsimp only at g1 g2 g3 g4
  (simp only[go_sem] at hE;obtain⟨e8,e6',e7',e5',e1',e4'⟩:=hE;simp only[go_sem,↓reduceIte,Qa,Qb,e8,e6',e7',e1'];dsimp only at *)
  refine⟨fun hlt2=>?_,fun hge2=>?_⟩
  ·have hk2:k<[r0,r1].length:=by simp only[List.length_cons,List.length_nil];omega
   have hk3:1-k<[r0,r1].length:=by simp only[List.length_cons,List.length_nil];omega
   have hps:=zgv c r0 r1 begin y k (by omega) hk2 hk3
   obtain⟨ad,had,hR⟩:=hyf k hk2
   obtain⟨ad',had',hR'⟩:=hyf (1-k) hk3
   obtain⟨hro,hrw⟩:=hall k hk2
   obtain⟨hoo,-⟩:=hall (1-k) hk3
   obtain⟨r,hr⟩:∃r,r=[r0,r1][k]:=⟨_,rfl⟩
   obtain⟨r',hr'⟩:∃r,r=[r0,r1][1-k]:=⟨_,rfl⟩
   rw[←hr] at hR hro hrw hps
   rw[←hr'] at hR' hoo hps
   have hleR:=RO.le_trans hle1 (RO.le_trans hle2 hle3)
   refine⟨by omega,vat ad had ?_⟩
   try simp only[go_sem,↓reduceIte]
   refine zaf r.cells rfl (fun j u hj=>hleR _ _ (hR j u hj)) ?_
   simp only[go_sem,↓reduceIte,Qa,Yr.cells]
   refine vcall (hF R3 hleR begin y r hro hrw (by omega) (by omega)) ?_
   rintro R4 v hle4 ⟨d,rfl,hd⟩
   have hyd:=zjv hv begin y hro
   have hmi:=hro.minute
   have hoff:=hoo.off
   try simp only[go_sem,↓reduceIte,Qa,Qb,Qe,Qf,e8,e6',e7',e5',e1',e4']
   obtain⟨b,hb⟩:∃b,b=(ydA c begin y r).2:=⟨_,rfl⟩
   rw[←hb] at hd ⊢
   have hleR4:=RO.le_trans hleR hle4
   cases b with
   |true =>
    obtain rfl:=hd rfl
    have hy1:yr1 c begin y r r'=[⟨(ydA c begin y r).1*1440+r.minute-r'.off,r.off⟩]:=by unfold yr1;rw[←hb,if_pos rfl]
    try simp only[go_sem]
    refine⟨_,W.in64 (by omega),by omega,vat ad had ?_⟩
    try simp only[go_sem,↓reduceIte,Qb]
    refine vload (.int .i64 r.minute) (hleR4 _ _ (hR 3 _ rfl)) ?_
    try simp only[go_sem,↓reduceIte,Qa,e8,e1']
    refine⟨_,W.in64 (by omega),_,W.in64 (by omega),by omega,by omega,?_⟩
    rw[show(1-(k:Int)).toNat=1-k by omega]
    refine vat ad' had' ?_
    try simp only[go_sem,↓reduceIte,Qb]
    refine vload (.int .i64 r'.off) (hleR4 _ _ (hR' 4 _ rfl)) ?_
    try simp only[go_sem,↓reduceIte,Qa,e8,e1']
    refine⟨_,W.in64 (by omega),by omega,vat ad had ?_⟩
    try simp only[go_sem,↓reduceIte,Qb]
    refine vload (.int .i64 r.off) (hleR4 _ _ (hR 4 _ rfl)) ?_
    try simp only[go_sem,↓reduceIte,Qa,Qb,Qd]
    have hI:=rInsT o ⟨(ydA c begin y r).1*1440+r.minute-r'.off,r.off⟩ g3 (by omega) R4
    simp only[Tr.cells] at hI
    refine vhand [1] [.sl 0 o.length,.val (.agg #[.int .i64 ((ydA c begin y r).1*1440+r.minute-r'.off),.int .i64 r.off])] [.row 95 2 (rowTr o)] hI rfl rfl rfl ?_ (by simp) rfl rfl ?_
    ·try simp only[go_sem]
    rintro R5 bs rr hle5 ⟨ys,hp,hs,rfl,rfl⟩ -
    simp only[go_sem,↓reduceIte,Qa,Qb,Qe,Qf,setG,rn,e8,e6',e7',e5',e1']
    have hyl:=hp.length_eq
    simp only[List.length_cons] at hyl
    refine⟨_,W.in64 (by omega),(k+1,ys),[0,4],by dsimp only;omega,⟨⟨by norm_cast,rfl,rfl⟩,?_⟩,by decide,by dsimp only;omega,?_,hs,by dsimp only;omega⟩
    ·exact⟨rfl,rfl⟩
    ·dsimp only
     rw[hps,hy1,←List.append_assoc]
     exact hp.trans ((List.perm_append_singleton _ _).symm.trans (List.Perm.append_right _ g2))
   |false =>
    have hy1:yr1 c begin y r r'=[]:=by unfold yr1;rw[←hb];rfl
    try simp only[go_sem]
    refine⟨_,W.in64 (by omega),(k+1,o),[],by dsimp only;omega,⟨⟨by norm_cast,rfl,rfl⟩,?_⟩,by decide,by dsimp only;omega,?_,g3,by dsimp only;omega⟩
    ·exact⟨rfl,rfl⟩
    ·dsimp only
     rw[hps,hy1,List.append_nil]
     exact g2
  ·obtain rfl:k=2:=by omega
   refine vcall (hYL R3 (RO.le_trans hle1 (RO.le_trans hle2 hle3)) y (by unfold I64;omega)) ?_
   rintro R4 v hle4 rfl
   have hyb:=hv.ylen_bd y
   have hml1:=hv.2.1.1
   have hyA:ylenA c y=c.ylen y:=if_pos hv
   try simp only[go_sem,↓reduceIte,Qa,Qb,Qe,Qf,e7',e5',e1',e4']
   rw[hyA]
   have hgs:=zju c r0 r1 (c.epoch+cycD c) (f-1) (y:=y) (out:=U) hlt
   rw[show f-1+1=f by omega] at hgs
   refine⟨_,W.in64 (by omega),_,W.in64 (by omega),(f-1,begin+c.ylen y,y+1,U++yrT c r0 r1 begin y,o),[],by dsimp only;omega,⟨⟨rfl,rfl,rfl,rfl⟩,rfl,rfl⟩,by decide,⟨?_,?_,g3⟩,by dsimp only;omega,by dsimp only;omega,by dsimp only;omega,by dsimp only;omega⟩
   ·dsimp only
    rw[←hgs];exact h1
   ·exact g2
 ·have hU2:U=unsT c r0 r1:=by rw[←h1,zjt _ _ _ _ _ (by omega)]
  have hob:∀x∈out,-10000000000≤x.pos∧x.pos≤10000000000:=fun x hx=>zfu hv hr0 hr1 x (by rw[←hU2];exact h2.mem_iff.1 hx)
  have hcl:∀i j (hi:i<out.length),j<2→(rowTr out)[i*2+j]?=(out[i].cells)[j]?:=fun i j hi hj=>zd4 out i j hi hj
  refine zaj Nat (fun i=>[(11,.val (.int .i64 i)),(5,.val (.int .i64 (cycD c))),(4,.sl 1 out.length)]) (fun _=>[.box [.val (.int .i64 c.epoch),.val (.slice ma mn mc),.val (.int .i64 c.leap),.val (.slice ra rln rc),.val (.int .i64 st),.val (.slice ta tn tc),.val (.int .i64 ho),.val (.slice ya 2 yc)],.row 95 2 (rowTr out)])
   (fun i _=>i≤out.length∧∀a (h:a<out.length),a<i→2160≤(if h2:a+1<out.length then out[a+1].pos else out[0].pos+cycD c*1440)-out[a].pos) (fun i=>out.length-i) 0 ?_ ?_ ?_ ?_
  ·try simp only[go_sem,↓reduceIte,Qa,Qb,e5,e4]
   first|trivial|rfl
  ·try simp only[go_sem,Qb,Qe,Qf]
  ·exact⟨Nat.zero_le _,fun a _ h=>absurd h (by omega)⟩
  rintro i env R3 hle3 hE ⟨hi,hfar⟩
  (simp only[go_sem] at hE;obtain⟨e11,e5',e4'⟩:=hE;simp only[go_sem,↓reduceIte,Qa,Qb,e11,e5',e4'];dsimp only at *)
  refine⟨fun hlt=>?_,fun hge=>?_⟩
  ·have hi':i<out.length:=by omega
   have hb0:=hob out[0] (List.getElem_mem _)
   have hbi:=hob out[i] (List.getElem_mem _)
   refine⟨by omega,by omega,_,(hcl 0 0 (by omega) (by omega)).trans rfl,_,W.in64 (by omega),?_⟩
   try simp only[go_sem,↓reduceIte,Qa,e11,e4']
   refine⟨_,W.in64 (by omega),_,W.in64 (by omega),fun hlt2=>?_,fun hge2=>?_⟩
   ·have hbj:=hob out[i+1] (List.getElem_mem (by omega))
    refine⟨_,W.in64 (by omega),by omega,by omega,?_⟩
    rw[show((i:Int)+1).toNat=i+1 by omega]
    refine⟨_,(hcl (i+1) 0 (by omega) (by omega)).trans rfl,by omega,_,(hcl i 0 hi' (by omega)).trans rfl,?_⟩
    try simp only[go_sem,↓reduceIte,Qa,Qb,Qe,Qf,e11,e5',e4']
    refine⟨_,W.in64 (by omega),fun hnear=>?_,fun hok=>?_⟩
    ·intro b cap R' hle' hrow hcap hfr
     refine⟨out,_,?_,RowIn.enc (enc:=Tr.cells) (k:=2) (xs:=out) (fun _=>rfl) (by omega) hrow hcap (by omega),by rw[←hU2];exact h2,h3⟩
     rw[decide_eq_false (fun hF=>?_)]
     have:=hF i hi'
     rw[dif_pos (by omega:i+1<out.length)] at this
     omega
    ·refine⟨_,W.in64 (by omega),i+1,by omega,by norm_cast,by omega,fun a ha hlt3=>?_⟩
     rcases Nat.lt_or_ge a i with h|h
     ·exact hfar a ha h
     ·obtain rfl:a=i:=by omega
      rw[dif_pos (by omega:a+1<out.length)]
      omega
   ·refine⟨by omega,_,(hcl i 0 hi' (by omega)).trans rfl,?_⟩
    try simp only[go_sem,↓reduceIte,Qa,Qb,Qe,Qf,e11,e5',e4']
    refine⟨_,W.in64 (by omega),fun hnear=>?_,fun hok=>?_⟩
    ·intro b cap R' hle' hrow hcap hfr
     refine⟨out,_,?_,RowIn.enc (enc:=Tr.cells) (k:=2) (xs:=out) (fun _=>rfl) (by omega) hrow hcap (by omega),by rw[←hU2];exact h2,h3⟩
     rw[decide_eq_false (fun hF=>?_)]
     have:=hF i hi'
     rw[dif_neg (by omega:¬ i+1<out.length)] at this
     omega
    ·refine⟨_,W.in64 (by omega),i+1,by omega,by norm_cast,by omega,fun a ha hlt3=>?_⟩
     rcases Nat.lt_or_ge a i with h|h
     ·exact hfar a ha h
     ·obtain rfl:a=i:=by omega
      rw[dif_neg (by omega:¬ a+1<out.length)]
      omega
  ·obtain rfl:i=out.length:=by omega
   intro b cap R' hle' hrow hcap hfr
   refine⟨out,_,by rw[decide_eq_true (show Far out (cycD c) from fun a ha=>hfar a ha ha)],?_,by rw[←hU2];exact h2,h3⟩
   exact RowIn.enc (enc:=Tr.cells) (k:=2) (xs:=out) (fun _=>rfl) (by omega) hrow hcap (by omega)
end Go.Proofs.YtdgndfabdmecmaaGreat
namespace Go.Proofs.YtdgndfabdmecmaaGreat
set_option linter.unusedSectionVars false
variable [Go.Proofs.YtdgndfabdmecmaaGreat.Vc.Drew]
open Go.Proofs.YtdgndfabdmecmaaGreat.Vc Go.Shelf Go.Sort
def Tryz.sortTr_ren:Go.Shelf.Ren:=⟨fun|6=>158|15=>96|14=>190|28=>129|29=>130|20=>199|21=>200|22=>201|23=>202|24=>203|25=>204|26=>205|27=>206|46=>210|47=>173|48=>174|49=>211|50=>212|57=>215|n=>n,fun|22=>40|24=>95|25=>231|3=>3|39=>175|0=>0|53=>210|55=>212|4=>4|46=>204|45=>203|50=>156|5=>5|9=>9|66=>236|70=>240|76=>258|77=>253|n=>n,fun|n=>n⟩
theorem Tryz.sortTr:Go.Proofs.SlLaysF0.n6 Tryz.prog Tryz.sortTr_ren:={
 mixed:=by kernel_rfl
 f6:=⟨Tryz.f158.name,by decide,Tryz.func158.trans (congrArg some (by kernel_rfl))⟩
 f14:=⟨Tryz.f190.name,by decide,Tryz.func190.trans (congrArg some (by kernel_rfl))⟩
 f15:=Tryz.func96.trans (congrArg some (by kernel_rfl))
 f20:=⟨Tryz.f199.name,by decide,Tryz.func199.trans (congrArg some (by kernel_rfl))⟩
 f21:=⟨Tryz.f200.name,by decide,Tryz.func200.trans (congrArg some (by kernel_rfl))⟩
 f22:=⟨Tryz.f201.name,by decide,Tryz.func201.trans (congrArg some (by kernel_rfl))⟩
 f23:=⟨Tryz.f202.name,by decide,Tryz.func202.trans (congrArg some (by kernel_rfl))⟩
 f24:=⟨Tryz.f203.name,by decide,Tryz.func203.trans (congrArg some (by kernel_rfl))⟩
 f25:=⟨Tryz.f204.name,by decide,Tryz.func204.trans (congrArg some (by kernel_rfl))⟩
 f26:=⟨Tryz.f205.name,by decide,Tryz.func205.trans (congrArg some (by kernel_rfl))⟩
 f27:=⟨Tryz.f206.name,by decide,Tryz.func206.trans (congrArg some (by kernel_rfl))⟩
 f28:=Tryz.func129.trans (congrArg some (by kernel_rfl))
 f29:=Tryz.func130.trans (congrArg some (by kernel_rfl))
 f46:=⟨Tryz.f210.name,by decide,Tryz.func210.trans (congrArg some (by kernel_rfl))⟩
 f47:=Tryz.func173.trans (congrArg some (by kernel_rfl))
 f48:=Tryz.func174.trans (congrArg some (by kernel_rfl))
 f49:=⟨Tryz.f211.name,by decide,Tryz.func211.trans (congrArg some (by kernel_rfl))⟩
 f50:=⟨Tryz.f212.name,by decide,Tryz.func212.trans (congrArg some (by kernel_rfl))⟩
 f57:=⟨Tryz.f215.name,by decide,Tryz.func215.trans (congrArg some (by kernel_rfl))⟩
 t0:=Tryz.underlying0
 a0:=Tryz.isAgg0
 z0:=Tryz.sizeOf0
 v0:=Tryz.zeroValue0
 t3:=Tryz.underlying3
 a3:=Tryz.isAgg3
 z3:=Tryz.sizeOf3
 v3:=Tryz.zeroValue3
 t4:=Tryz.underlying4
 a4:=Tryz.isAgg4
 z4:=Tryz.sizeOf4
 v4:=Tryz.zeroValue4
 t5:=Tryz.underlying5
 a5:=Tryz.isAgg5
 z5:=Tryz.sizeOf5
 v5:=Tryz.zeroValue5
 t9:=Tryz.underlying9
 a9:=Tryz.isAgg9
 z9:=Tryz.sizeOf9
 v9:=Tryz.zeroValue9
 t22:=Tryz.underlying40
 a22:=Tryz.isAgg40
 z22:=Tryz.sizeOf40
 v22:=Tryz.zeroValue40
 t25:=Tryz.underlying231
 a25:=Tryz.isAgg231
 z25:=Tryz.sizeOf231
 v25:=Tryz.zeroValue231
 t39:=Tryz.underlying175
 a39:=Tryz.isAgg175
 z39:=Tryz.sizeOf175
 v39:=Tryz.zeroValue175
 t45:=Tryz.underlying203
 a45:=Tryz.isAgg203
 z45:=Tryz.sizeOf203
 v45:=Tryz.zeroValue203
 t46:=Tryz.underlying204
 a46:=Tryz.isAgg204
 z46:=Tryz.sizeOf204
 v46:=Tryz.zeroValue204
 t50:=Tryz.underlying156
 a50:=Tryz.isAgg156
 z50:=Tryz.sizeOf156
 v50:=Tryz.zeroValue156
 t53:=Tryz.underlying210
 a53:=Tryz.isAgg210
 z53:=Tryz.sizeOf210
 v53:=Tryz.zeroValue210
 t55:=Tryz.underlying212
 a55:=Tryz.isAgg212
 z55:=Tryz.sizeOf212
 v55:=Tryz.zeroValue212
 t66:=Tryz.underlying236
 a66:=Tryz.isAgg236
 z66:=Tryz.sizeOf236
 v66:=Tryz.zeroValue236
 t70:=Tryz.underlying240
 a70:=Tryz.isAgg240
 z70:=Tryz.sizeOf240
 v70:=Tryz.zeroValue240
 t76:=Tryz.underlying258
 a76:=Tryz.isAgg258
 z76:=Tryz.sizeOf258
 v76:=Tryz.zeroValue258
 t77:=Tryz.underlying253
 a77:=Tryz.isAgg253
 z77:=Tryz.sizeOf253
 v77:=Tryz.zeroValue253 }
theorem znX(a b:Tr)(R:RO):zaa Tryz.prog 159 [.agg a.cells.toArray,.agg b.cells.toArray] R fun _ v=>v = .int .i64 (cmpI a.pos b.pos):=by
 simp only[Tr.cells]
 refine zac mix Tryz.func159 comp159 (by simp[Tryz.ntmps159]) ?_;simp only[go_sem,↓reduceIte,Qa,vc159,rs159]
 refine vcall (zci a.pos b.pos R) ?_
 rintro R1 v h1 rfl
 try simp only[go_sem,↓reduceIte]
def cmpT(a b:Tr):Int:=cmpI a.pos b.pos
theorem ziC(e:Tr):∀v∈e.cells,v.oneCell'=true:=by
 intro v hv
 simp only[Tr.cells,List.mem_cons,List.not_mem_nil,or_false] at hv
 rcases hv with rfl|rfl<;>rfl
instance:Inhabited Tr:=⟨⟨0,0⟩⟩
theorem ltT(p q:Tr):ltOf cmpT p q=decide (p.pos<q.pos):=by
 unfold ltOf cmpT cmpI
 split
 ·simp[*]
 ·split<;>simp<;>omega
theorem znY:SWO (ltOf cmpT):=by
 refine⟨fun x=>?_,fun x y z h k=>?_,fun x y z h k=>?_⟩
 ·rw[ltT];simp
 ·rw[ltT] at *;simp at *;omega
 ·rw[ltT] at *;simp at *;omega
theorem zp6(ms:List Tr)(hl:ms.length≤1000000000)(R:RO) :
  zaV Tryz.prog 158 [.sl 0 ms.length,.val (.func (.func 159) #[] #[])] [.row 95 2 (rowTr ms)] R fun R' bs r =>
   R'=R∧∃qs:List Tr,qs.Perm ms∧Sor qs∧bs=[.row 95 2 (rowTr qs)]∧r = .val (.tuple #[]):=by
 have h:=ze8 Tryz.sortTr 2 Tryz.isAgg95 Tryz.sizeOf95 Tr.cells (fun _=>rfl) ziC cmpT znY 159 95
  (enters_of Tryz.func159 (by kernel_rfl) rfl) (fun x y=>@znX ⟨1⟩ x y _) ms (by omega) R
 simp only[ltT,decide_eq_false_iff_not,Int.not_lt] at h
 exact h
theorem zkh(fv:Value)(R:RO):zaa Tryz.prog 158 [.slice none 0 0,fv] R fun _ r=>r = .tuple #[]:=zdH Tryz.sortTr fv R
end Go.Proofs.YtdgndfabdmecmaaGreat
namespace Go.Proofs.YtdgndfabdmecmaaGreat
open Go.Proofs.YtdgndfabdmecmaaGreat.Vc
def ckOf(n:Zn)(L:List Tr):Ck:=⟨n.trans,L,if n.yearly=[] then 1 else cycD n.cal,n.start,n.hor⟩
def zg0(n:Zn)(L:List Tr):Prop:=(n.yearly=[]∧L=[])∨∃r0 r1,n.yearly=[r0,r1]∧YrOK n.cal r0∧YrOK n.cal r1∧L.Perm (unsT n.cal r0 r1)∧Far L (cycD n.cal)
theorem zMin(cyc:Int)(hc:1≤cyc∧cyc≤1836800)(ad:Addr)(R:RO)(h:R (ad.add 9) (.int .i64 cyc)):zaa Tryz.prog 160 [.pointer (some ad)] R fun _ v=>v = .int .i64 (cyc*1440):=by
 refine zac mix Tryz.func160 comp160 (by simp[Tryz.ntmps160]) ?_;simp only[go_sem,↓reduceIte,Qb,reduceCtorEq,vc160,rs160]
 refine vload _ h ?_
 try simp only[go_sem,↓reduceIte]
 exact⟨_,W.in64 (by omega),rfl⟩
set_option maxHeartbeats 4000000 in
theorem zTick(z:Zv)(n:Zn)(R:RO)(h:ZnIn R z n)(hv:n.cal.valid)(L:List Tr)(hL:zg0 n L) :
  zaa Tryz.prog 108 [.agg z.cells.toArray] R fun R' v=>∃ad ya yc,v = .tuple #[.pointer (some ad),.bool true]∧CkV R' ad (ckOf n L) z.ta z.tc ya yc:=by
 have hyl:=h.yearly.slen
 have htl:=h.trans.slen
 have hep:=h.ep
 have hlp:=h.leap
 have hyr:=h.yearly
 have hcal:=h.cal
 have htr:=h.trans
 have hst:=h.start
 have hho:=h.hor
 have hCy:=fun R' (hle:RO.le R R')=>zrh n.cal _ _ R' (h.cal.mono hle)
 have hYL:=fun R' (hle:RO.le R R')=>ziz n.cal _ _ R' (h.cal.mono hle)
 have hYD:=fun R' (hle:RO.le R R')=>znV n.cal hv _ _ R' (h.cal.mono hle)
 obtain⟨ep,ma,mn,mc,lp,ra,rln,rc,st,ta,tn,tc,ho,ya,yn,yc⟩:=z
 obtain⟨c,nst,ntr,nho,nyl⟩:=n
 dsimp only at hyl hep hlp hyr hYL hcal hv hL hCy hYD htr htl hst hho
 subst hep hlp hst hho
 simp only[Zv.cells,cv,cycA,if_pos hv] at hCy hYD hYL ⊢
 have hdb:=hv.days_bd
 have hpp:=hv.per.2.1
 have hcb:=zdM (c:=c) (by omega)
 have hepb:=hv.1
 refine zac mix Tryz.func108 comp108 (by simp[Tryz.ntmps108]) ?_;simp only[go_sem,↓reduceIte,Qa,Qb,Qd,vc108,rs108]
 subst htl
 refine⟨fun h0=>?_,fun h0=>?_⟩
 ·obtain rfl:nyl=[]:=List.eq_nil_of_length_eq_zero (by omega)
  obtain rfl:L=[]:=by
   rcases hL with⟨_,e⟩|⟨r0,r1,e,_⟩
   ·exact e
   ·cases e
  intro b R' hle hrow hfr
  exact⟨⟨b,0,none⟩,none,0,rfl,hrow 4 _ rfl,hrow 5 _ rfl,htr.mono hle,hrow 6 _ rfl,hrow 8 _ rfl,EncV.nil _ _ _,hrow 9 _ rfl⟩
 rcases hL with⟨rfl,_⟩|⟨r0,r1,hye,hr0,hr1,hLp,hLf⟩
 ·exact absurd (by rw[hyl];rfl) h0
 dsimp only at hye hr0 hr1 hLp hLf
 rw[hye] at hyr hyl
 obtain rfl:yn=2:=hyl
 obtain⟨ya',yc',hyE,hyc,hyf⟩:=hyr.form
 simp only[Value.slice.injEq] at hyE
 obtain⟨rfl,_,rfl⟩:=hyE
 simp only[List.length_cons,List.length_nil,Nat.zero_add,Qb] at hyf
 have hU:goY c r0 r1 (c.epoch+cycD c) (cycD c+1).toNat c.epoch 1 []=unsT c r0 r1:=rfl
 have hck:ckOf ⟨c,st,ntr,ho,nyl⟩ L=⟨ntr,L,cycD c,st,ho⟩:=by unfold ckOf;rw[if_neg (by rw[hye];simp)]
 rw[hck]
 refine vcall (hCy R (RO.le_refl R)) ?_
 rintro R1 r hle1 rfl
 try simp only[go_sem,↓reduceIte,Qa,Qb,Jd,Je]
 have htm:c.days.tmod 7=c.days%7:=Int.tmod_eq_emod_of_nonneg (by omega)
 rw[htm]
 have hc7:c.days%7=0∧cycD c=c.days∨c.days%7≠0∧cycD c=c.days*7:=by
  unfold cycD
  by_cases h7:c.days%7=0
  ·exact .inl ⟨h7,if_pos h7⟩
  ·exact .inr ⟨h7,if_neg h7⟩
 have hall:∀i (h:i<[r0,r1].length),YrOK c [r0,r1][i]:=fun i hi=>by
  rcases(by simp only[List.length_cons,List.length_nil] at hi;omega:i=0∨i=1) with rfl|rfl
  ·exact hr0
  ·exact hr1
 refine⟨fun h7=>⟨_,W.in64 (by omega),?_⟩,fun h7=>?_⟩
 rw[show c.days*7=cycD c by omega]
 rotate_left
 rw[show c.days=cycD c by omega]
 all_goals
  refine zal (Nat×Int×Int×List Tr) (fun x=>[(8,.val (.int .i64 x.2.1)),(9,.val (.int .i64 x.2.2.1)),(1,.loc 0 0),(4,.loc 1 0)])
   (fun x=>[.box [.val (.int .i64 c.epoch),.val (.slice ma mn mc),.val (.int .i64 c.leap),.val (.slice ra rln rc),.val (.int .i64 st),.val (.slice ta ntr.length tc),.val (.int .i64 ho),.val (.slice ya 2 yc)],.box [.val (.int .i64 c.epoch),.val (.slice ma mn mc),.val (.int .i64 c.leap),.val (.slice ra rln rc),.val (.int .i64 st),.val (.slice ta ntr.length tc),.val (.int .i64 ho),.val (.slice ya 2 yc),gs 2 x.2.2.2.length,.val (.int .i64 (cycD c))],gb 95 2 (rowTr x.2.2.2)])
   (fun x _=>goY c r0 r1 (c.epoch+cycD c) x.1 x.2.1 x.2.2.1 x.2.2.2=unsT c r0 r1∧(c.epoch≤x.2.1∧x.2.1≤c.epoch+cycD c+656)∧(1≤x.2.2.1∧x.2.2.1≤x.2.1+1)∧(x.2.2.2.length:Int)≤2*(x.2.2.1-1)∧(c.epoch+cycD c-x.2.1).toNat<x.1)
   (fun x=>(c.epoch+cycD c-x.2.1).toNat) ((cycD c+1).toNat,c.epoch,1,[]) [] ?_ ?_ ?_ ?_
  ·(try simp only[go_sem,↓reduceIte,Qa,Qb,reduceCtorEq])<;>(repeat' (first|rfl|trivial|constructor|(intro h;exact absurd rfl h)))
  ·try simp only[go_sem,Qb,Qe,Qf]
  ·exact⟨hU,⟨Int.le_refl _,by dsimp only;omega⟩,⟨by dsimp only;omega,by dsimp only;omega⟩,by simp,by dsimp only;omega⟩
  rintro⟨f,begin,y,U⟩ env R2 hle2 hE ⟨h1,⟨h4,h5⟩,⟨h6,h7'⟩,h8,h9⟩
  dsimp only at h1 h4 h5 h6 h7' h8 h9
  (simp only[go_sem] at hE;obtain⟨e8,e9,e1,e4⟩:=hE;simp only[go_sem,↓reduceIte,Qa,Qb,e8,e1,e4];dsimp only at *)
  refine⟨_,W.in64 (by omega),fun hlt=>?_,fun hge=>?_⟩
  ·refine zal (Nat×List Tr) (fun x=>[(64,.val (.int .i64 x.1)),(63,.val (.int .i64 2)),(62,.val (.slice ya 2 yc)),(8,.val (.int .i64 begin)),(9,.val (.int .i64 y)),(1,.loc 0 0),(4,.loc 1 0)])
    (fun x=>[.box [.val (.int .i64 c.epoch),.val (.slice ma mn mc),.val (.int .i64 c.leap),.val (.slice ra rln rc),.val (.int .i64 st),.val (.slice ta ntr.length tc),.val (.int .i64 ho),.val (.slice ya 2 yc)],.box [.val (.int .i64 c.epoch),.val (.slice ma mn mc),.val (.int .i64 c.leap),.val (.slice ra rln rc),.val (.int .i64 st),.val (.slice ta ntr.length tc),.val (.int .i64 ho),.val (.slice ya 2 yc),gs 2 x.2.length,.val (.int .i64 (cycD c))],gb 95 2 (rowTr x.2)])
    (fun x _=>x.1≤2∧x.2=U++partY c r0 r1 begin y x.1∧(x.2.length:Int)≤2*(y-1)+x.1) (fun x=>2-x.1) (0,U) [] ?_ ?_ ?_ ?_
   ·try simp only[go_sem,↓reduceIte,Qa,Qb,e8,e9,e1,e4]
    exact⟨⟨rfl,rfl⟩,fun h=>gb_ne h⟩
   ·try simp only[go_sem,Qb,Qe,Qf]
   ·exact⟨by omega,by simp[partY],by simpa using h8⟩
   rintro⟨k,o⟩ env R3 hle3 hE ⟨g1,g2,g4⟩
   dsimp only at g1 g2 g4
   (simp only[go_sem] at hE;obtain⟨e64,e63,e62,e8',e9',e1',e4'⟩:=hE;simp only[go_sem,↓reduceIte,Qa,Qb,e64,e63,e62,e8',e9',e1'];dsimp only at *)
   refine⟨fun hlt2=>?_,fun hge2=>?_⟩
   ·have hk2:k<[r0,r1].length:=by simp only[List.length_cons,List.length_nil];omega
    have hk3:1-k<[r0,r1].length:=by simp only[List.length_cons,List.length_nil];omega
    have hps:=zgv c r0 r1 begin y k (by omega) hk2 hk3
    obtain⟨ad,had,hR⟩:=hyf k hk2
    obtain⟨ad',had',hR'⟩:=hyf (1-k) hk3
    have hro:=hall k hk2
    have hoo:=hall (1-k) hk3
    obtain⟨r,hr⟩:∃r,r=[r0,r1][k]:=⟨_,rfl⟩
    obtain⟨r',hr'⟩:∃r,r=[r0,r1][1-k]:=⟨_,rfl⟩
    rw[←hr] at hR hro hps
    rw[←hr'] at hR' hoo hps
    have hleR:=RO.le_trans hle1 (RO.le_trans hle2 hle3)
    refine⟨by omega,vat ad had ?_⟩
    try simp only[go_sem,↓reduceIte]
    refine zaf r.cells rfl (fun j u hj=>hleR _ _ (hR j u hj)) ?_
    simp only[go_sem,↓reduceIte,Qa,Qb,Yr.cells,e8',e9',e1']
    have hYY:=hYD R3 hleR begin y r hro (by omega) (by omega)
    simp only[Yr.cells] at hYY
    refine vcall hYY ?_
    rintro R4 v hle4 rfl
    have hyd:=zjv hv begin y hro
    have hmi:=hro.minute
    have hoff:=hoo.off
    have hleR4:=RO.le_trans hleR hle4
    obtain⟨b,hb⟩:∃b,b=(ydA c begin y r).2:=⟨_,rfl⟩
    rw[←hb]
    cases b with
    |true =>
     have hy1:yr1 c begin y r r'=[⟨(ydA c begin y r).1*1440+r.minute-r'.off,r.off⟩]:=by unfold yr1;rw[←hb,if_pos rfl]
     try simp only[go_sem,↓reduceIte,Qa,e1',e4']
     refine⟨_,W.in64 (by omega),_,W.in64 (by omega),_,W.in64 (by omega),by omega,by omega,?_⟩
     rw[show(1-(k:Int)).toNat=1-k by omega]
     refine vat ad' had' ?_
     try simp only[go_sem,↓reduceIte,Qb]
     refine vload (.int .i64 r'.off) (hleR4 _ _ (hR' 4 _ rfl)) ?_
     try simp only[go_sem,↓reduceIte,Qa,Qb,Qc,Qd]
     refine⟨_,W.in64 (by omega),?_⟩
     refine vgrow (rowTr o) (fun h0=>by rfl) (fun h0=>by rw[h0,zbv];rfl) (zbR o) (by omega) (by omega) (by omega) ?_
     try simp only[go_sem,↓reduceIte,Qa,Qb,Qd,Qe,Qf,e64,e63,e62,e8',e9',e1',e4']
     refine⟨_,W.in64 (by omega),(k+1,o++yr1 c begin y r r'),[0,1,5],by dsimp only;omega,⟨⟨by norm_cast,rfl,rfl⟩,rfl,?_,fun _=>?_⟩,by decide,by dsimp only;omega,?_,?_⟩
     ·rw[hy1]
      simp only[List.length_append,List.length_cons,List.length_nil,Nat.zero_add,zjb]
      rfl
     ·rw[hy1]
      simp only[zfq]
      rfl
     ·dsimp only;rw[hps,g2,List.append_assoc]
     ·rw[hy1]
      simp only[List.length_append,List.length_cons,List.length_nil]
      omega
    |false =>
     have hy1:yr1 c begin y r r'=[]:=by unfold yr1;rw[←hb];rfl
     try simp only[go_sem,↓reduceIte,Qa,Qb,Qe,Qf,e64,e63,e62,e8',e9',e1',e4']
     refine⟨_,W.in64 (by omega),(k+1,o),[],by dsimp only;omega,⟨⟨by norm_cast,rfl,rfl⟩,rfl,?_,fun h=>?_⟩,rfl,by dsimp only;omega,?_,?_⟩
     ·rfl
     ·exact congrArg some (gb_ne h)
     ·dsimp only;rw[hps,hy1,List.append_nil];exact g2
     ·dsimp only;omega
   ·obtain rfl:k=2:=by omega
    refine vcall (hYL R3 (RO.le_trans hle1 (RO.le_trans hle2 hle3)) y (by unfold I64;omega)) ?_
    rintro R4 v hle4 rfl
    have hyb:=hv.ylen_bd y
    have hml1:=hv.2.1.1
    have hyA:ylenA c y=c.ylen y:=if_pos hv
    try simp only[go_sem,↓reduceIte,Qa,Qb,Qe,Qf,e9',e1',e4']
    rw[hyA]
    have hgs:=zju c r0 r1 (c.epoch+cycD c) (f-1) (y:=y) (out:=U) hlt
    rw[show f-1+1=f by omega] at hgs
    obtain rfl:o=U++yrT c r0 r1 begin y:=g2
    refine⟨_,W.in64 (by omega),_,W.in64 (by omega),(f-1,begin+c.ylen y,y+1,U++yrT c r0 r1 begin y),[],by dsimp only;omega,⟨⟨rfl,rfl,rfl,rfl⟩,rfl,?_,fun h=>?_⟩,rfl,?_,by dsimp only;omega,by dsimp only;omega,?_,by dsimp only;omega⟩
    ·rfl
    ·exact congrArg some (gb_ne h)
    ·dsimp only;rw[←hgs];exact h1
    ·dsimp only;omega
  ·have hU2:U=unsT c r0 r1:=by rw[←h1,zjt _ _ _ _ _ (by omega)]
   have hLU:L.Perm U:=by rw[hU2];exact hLp
   by_cases hU0:U=[]
   ·subst hU0
    obtain rfl:L=[]:=hLU.eq_nil
    rw[List.length_nil,zdU]
    try simp only[go_sem]
    refine vcall (zkh _ R2) ?_
    rintro R3 r hle3 rfl
    try simp only[go_sem,↓reduceIte,Qa,e4]
    refine zaj Unit (fun _=>[(121,.val (.int .i64 0)),(120,.val (.int .i64 0)),(4,.loc 1 0)]) (fun _=>[.box [.val (.int .i64 c.epoch),.val (.slice ma mn mc),.val (.int .i64 c.leap),.val (.slice ra rln rc),.val (.int .i64 st),.val (.slice ta ntr.length tc),.val (.int .i64 ho),.val (.slice ya 2 yc)],.box [.val (.int .i64 c.epoch),.val (.slice ma mn mc),.val (.int .i64 c.leap),.val (.slice ra rln rc),.val (.int .i64 st),.val (.slice ta ntr.length tc),.val (.int .i64 ho),.val (.slice ya 2 yc),.val (.slice none 0 0),.val (.int .i64 (cycD c))]]) (fun _ _=>True) (fun _=>0) () ?_ ?_ trivial ?_
    ·try simp only[go_sem,↓reduceIte,Qa,Qb,e4]
     first|trivial|rfl
    ·try simp only[go_sem,Qb,Qe,Qf]
    rintro _ env R4 hle4 hE -
    (simp only[go_sem] at hE;obtain⟨e121,e120,e4'⟩:=hE;simp only[go_sem,↓reduceIte,Qa,Qb,e121,e120,e4'];dsimp only at *)
    refine⟨fun h=>absurd h (by omega),fun _=>?_⟩
    intro b R' hle' hrow hfr
    have hle5:=RO.le_trans hle1 (RO.le_trans hle2 (RO.le_trans hle3 (RO.le_trans hle4 hle')))
    exact⟨⟨b,0,none⟩,none,0,rfl,hrow 4 _ rfl,hrow 5 _ rfl,htr.mono hle5,hrow 6 _ rfl,hrow 8 _ rfl,EncV.nil _ _ _,hrow 9 _ rfl⟩
   ·have hn0:U.length≠0:=fun e=>hU0 (List.eq_nil_of_length_eq_zero e)
    have hrw:rowTr U≠[]:=fun e=>by have:=zbR U;rw[e] at this;simp at this;omega
    rw[zaI hn0,gb_ne hrw]
    refine vhand [2] [.sl 0 U.length,.val (.func (.func 159) #[] #[])] [.row 95 2 (rowTr U)] (zp6 U (by omega) R2) rfl rfl rfl ?_ (by simp) rfl rfl ?_
    ·try simp only[go_sem]
    rintro R3 bs rr hle3 ⟨rfl,qs,hqp,hqs,rfl,rfl⟩ -
    have hq:qs=L:=zke hLf.asc hqs (hqp.trans hLU.symm)
    rw[hq,hLU.length_eq.symm]
    simp only[go_sem,↓reduceIte,Qa,Qb,setG,e4]
    have hLl:=hLU.length_eq
    have hob:∀x∈L,-10000000000≤x.pos∧x.pos≤10000000000:=fun x hx=>zfu hv hr0 hr1 x (hLp.mem_iff.1 hx)
    have hcl:∀i j (hi:i<L.length),j<2→(rowTr L)[i*2+j]?=(L[i].cells)[j]?:=fun i j hi hj=>zd4 L i j hi hj
    refine zal Nat (fun i=>[(121,.val (.int .i64 i)),(120,.val (.int .i64 L.length)),(119,.sl 2 L.length),(4,.loc 1 0)]) (fun _=>[.box [.val (.int .i64 c.epoch),.val (.slice ma mn mc),.val (.int .i64 c.leap),.val (.slice ra rln rc),.val (.int .i64 st),.val (.slice ta ntr.length tc),.val (.int .i64 ho),.val (.slice ya 2 yc)],.box [.val (.int .i64 c.epoch),.val (.slice ma mn mc),.val (.int .i64 c.leap),.val (.slice ra rln rc),.val (.int .i64 st),.val (.slice ta ntr.length tc),.val (.int .i64 ho),.val (.slice ya 2 yc),.sl 2 L.length,.val (.int .i64 (cycD c))],.row 95 2 (rowTr L)]) (fun i _=>i≤L.length) (fun i=>L.length-i) 0 [] ?_ ?_ ?_ ?_
    ·try simp only[go_sem,↓reduceIte,Qa,Qb,e4]
     first|trivial|rfl
    ·try simp only[go_sem,Qb,Qe,Qf]
    ·exact Nat.zero_le _
    rintro i env R4 hle4 hE hi
    (simp only[go_sem] at hE;obtain⟨e121,e120,e119,e4'⟩:=hE;simp only[go_sem,↓reduceIte,Qa,Qb,e121,e120,e119,e4'];dsimp only at *)
    refine⟨fun hlt=>?_,fun hge=>?_⟩
    ·have hi':i<L.length:=by omega
     have hb0:=hob L[0] (List.getElem_mem _)
     have hbi:=hob L[i] (List.getElem_mem _)
     have h0l:0<L.length:=by omega
     have hfi:=hLf i hi'
     refine⟨by omega,_,(hcl i 0 hi' (by omega)).trans rfl,_,(hcl i 1 hi' (by omega)).trans rfl,⟨rfl,rfl⟩,by omega,by omega,_,(hcl 0 0 h0l (by omega)).trans rfl,?_⟩
     refine vlend ?_
     intro β κ R5 hLd
     have hbox:=hLd.2 1 _ rfl
     have hx:R5 ((⟨β 1,0,none⟩:Addr).add 9) (.int .i64 (cycD c)):=by rw[Addr.add_lit];exact hbox 9 _ rfl
     refine⟨_,zMin (cycD c) hcb ⟨β 1,0,none⟩ R5 hx,?_⟩
     rintro R6 v R7 hle6 rfl hle7 -
     try simp only[go_sem,↓reduceIte,Qa,Qb,Qe,Qf,e121,e120,e119,e4']
     refine⟨_,W.in64 (by omega),_,W.in64 (by omega),fun hlt2=>?_,fun hge2=>?_⟩
     ·rw[dif_pos (by omega:i+1<L.length)] at hfi
      have hbj:=hob L[i+1] (List.getElem_mem (by omega))
      refine⟨_,W.in64 (by omega),by omega,by omega,?_⟩
      rw[show((i:Int)+1).toNat=i+1 by omega]
      refine⟨_,(hcl (i+1) 0 (by omega) (by omega)).trans rfl,?_⟩
      try simp only[go_sem,↓reduceIte,Qa,Qb,Qe,Qf,e121,e120,e119,e4']
      refine⟨_,W.in64 (by omega),fun h=>absurd h (by omega),fun _=>⟨_,W.in64 (by omega),i+1,[],by omega,⟨⟨by norm_cast,rfl,rfl⟩,rfl,rfl,rfl⟩,by decide,by omega⟩⟩
     ·rw[dif_neg (by omega:¬ i+1<L.length)] at hfi
      refine⟨_,W.in64 (by omega),fun h=>absurd h (by omega),fun _=>⟨_,W.in64 (by omega),i+1,[],by omega,⟨⟨by norm_cast,rfl,rfl⟩,rfl,rfl,rfl⟩,by decide,by omega⟩⟩
    ·obtain rfl:i=L.length:=by omega
     intro b cap R' hle' hrow hcap hfr b' R'' hle'' hrow' hfr'
     have hle5:=RO.le_trans hle1 (RO.le_trans hle2 (RO.le_trans hle3 (RO.le_trans hle4 (RO.le_trans hle' hle''))))
     exact⟨⟨b',0,none⟩,some ⟨b,0,none⟩,cap,rfl,hrow' 4 _ rfl,hrow' 5 _ rfl,htr.mono hle5,hrow' 6 _ rfl,hrow' 8 _ rfl,(RowIn.enc (enc:=Tr.cells) (k:=2) (xs:=L) (fun _=>rfl) (by omega) hrow hcap (by omega)).mono hle'',hrow' 9 _ rfl⟩
end Go.Proofs.YtdgndfabdmecmaaGreat
