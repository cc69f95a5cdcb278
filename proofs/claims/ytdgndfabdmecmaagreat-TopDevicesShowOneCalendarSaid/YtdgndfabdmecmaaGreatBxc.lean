/- Lemmas of our own, no statement of the seat; the last one of the claim's texts proves the law. -/
import Derived.Sort.OwnSortedInts
import Derived.Shelf.SlSortCmp.WholeK
import Derived.Shelf.SlSortCmp.NoneTotal
import Derived.Shelf.SortM.Plain
import Derived.Shelf.SlicesG.CompactI
import Derived.Sort.Grow
import Derived.Deep.Draws
import Derived.Lib.SlicesCompact
import Derived.Ground.SlsfProg
import Derived.Ground.SlgmProg
import Derived.Ground.SlgnProg
import Derived.Test.YtdgndfabdmecmaaGreatBxb
import Derived.Test.YtdgndfabdmecmaaGreatBxa
import Derived.Test.YtdgndfabdmecmaaGreatVcI
open Nat renaming reduceEqDiff → Qa, reduceAdd → Qb, reduceMul → Qc, reduceLeDiff → Qd, reduceLT → Qe, reduceBNe → Qf
open Int renaming reduceLE → Ja, reduceLT → Jb, reduceToNat → Jc, cast_ofNat_Int → Jd, reduceEq → Je, reduceNe → Jf
set_option linter.unusedSimpArgs false
set_option linter.unusedVariables false
namespace Go.Proofs.YtdgndfabdmecmaaGreat
open Go.Proofs.YtdgndfabdmecmaaGreat.Vc
theorem mix:Tryz.prog.follows .mixedOrders=true:=by kernel_rfl
end Go.Proofs.YtdgndfabdmecmaaGreat
namespace Go.Proofs.YtdgndfabdmecmaaGreat
set_option linter.unusedSectionVars false
variable [Go.Proofs.YtdgndfabdmecmaaGreat.Vc.Drew]
open Go.Proofs.YtdgndfabdmecmaaGreat.Vc
structure Mv where
 day:Int
 drop:Bool
 toDay:Int
 minute:Int
 length:Int
 deriving DecidableEq
structure Ed where
 kind:Int
 day:Int
 device:Int
 seq:Int
 mv:Mv
 minute:Int
 length:Int
 ra:Option Addr
 rn:Nat
 rc:Nat
 zone:ByteArray
def Mv.cells(m:Mv):List Value:=[.int .i64 m.day,.bool m.drop,.int .i64 m.toDay,.int .i64 m.minute,.int .i64 m.length]
def Mv.val(m:Mv):Value := .agg #[.int .i64 m.day,.bool m.drop,.int .i64 m.toDay,.int .i64 m.minute,.int .i64 m.length]
def Ed.val(e:Ed):Value := .agg #[.int .i64 e.kind,.int .i64 e.day,.int .i64 e.device,.int .i64 e.seq,.int .i64 e.mv.day,.bool e.mv.drop,.int .i64 e.mv.toDay,.int .i64 e.mv.minute,.int .i64 e.mv.length,.int .i64 e.minute,.int .i64 e.length,.slice e.ra e.rn e.rc,.string e.zone]
def betw(lo x hi:Int):Bool:=decide (lo≤x∧x≤hi)
theorem zbx(lo x hi:Int)(R:RO):zaa Tryz.prog 37 [.int .i64 lo,.int .i64 x,.int .i64 hi] R fun _ v=>v = .bool (betw lo x hi):=by
 refine zac mix Tryz.func37 comp37 (by simp[Tryz.ntmps37]) ?_;simp only[go_sem,↓reduceIte,Qa,reduceCtorEq,vc37,rs37]
 unfold betw
 refine⟨fun h=>?_,fun h=>?_⟩
 ·simp[h]
 ·simp[h]
theorem eNaN(a:Int)(R:RO):zaa Tryz.prog 101 [.int .i64 a] R fun _ v=>v = .bool false:=by
 refine zac mix Tryz.func101 comp101 (by simp[Tryz.ntmps101]) ?_;simp only[go_sem,↓reduceIte,Qa,reduceCtorEq,vc101,rs101]
def cmpI(a b:Int):Int:=if a<b then -1 else if b<a then 1 else 0
theorem zci(a b:Int)(R:RO):zaa Tryz.prog 69 [.int .i64 a,.int .i64 b] R fun _ v=>v = .int .i64 (cmpI a b):=by
 refine zac mix Tryz.func69 comp69 (by simp[Tryz.ntmps69]) ?_;simp only[go_sem,↓reduceIte,reduceCtorEq,vc69,rs69]
 refine vcall (eNaN a R) ?_
 rintro R1 v h1 rfl
 try simp only[go_sem,↓reduceIte,Qa]
 refine vcall (eNaN b R1) ?_
 rintro R2 v h2 rfl
 try simp only[go_sem,↓reduceIte,Qa,reduceCtorEq]
 unfold cmpI
 refine⟨fun h=>by simp[h],fun h=>⟨fun h'=>by simp[h,h'],fun h'=>by simp[h,h']⟩⟩
def zaU(m:Mv):Bool:=betw 0 m.day 1099511627776&&if m.drop then decide (m.toDay=0∧m.minute=0∧m.length=0) else betw 0 m.toDay 1099511627776&&betw 0 m.minute 1439&&betw 1 m.length 10080
theorem zge(m:Mv)(R:RO):zaa Tryz.prog 29 [m.val] R fun _ v=>v = .bool (zaU m):=by
 obtain⟨day,drop,toDay,minute,length⟩:=m
 simp only[Mv.val]
 refine zac mix Tryz.func29 comp29 (by simp[Tryz.ntmps29]) ?_;simp only[go_sem,↓reduceIte,Qa,vc29,rs29]
 refine vcall (zbx 0 day 1099511627776 R) ?_
 rintro R1 v h1 rfl
 try simp only[go_sem,↓reduceIte,Qa,Qb,Qd]
 unfold zaU
 refine⟨fun h=>by simp[h],fun h=>⟨fun hd=>?_,fun hd=>?_⟩⟩
 ·subst hd
  simp[h]
 ·subst hd
  refine vcall (zbx 0 toDay 1099511627776 R1) ?_
  rintro R2 v h2 rfl
  try simp only[go_sem,↓reduceIte,Qa]
  refine⟨fun g1=>?_,fun g1=>by simp[h,g1]⟩
  refine vcall (zbx 0 minute 1439 R2) ?_
  rintro R3 v h3 rfl
  try simp only[go_sem,↓reduceIte,Qa]
  refine⟨fun g2=>?_,fun g2=>by simp[h,g1,g2]⟩
  refine vcall (zbx 1 length 10080 R3) ?_
  rintro R4 v h4 rfl
  try simp only[go_sem,↓reduceIte,Qa]
  simp[h,g1,g2]
def orI:List Int→Int
 |[]=>0
 |x::r=>if x=0 then orI r else x
theorem eOr(xs:List Int)(v:Value)(R:RO)(h:Ints R v xs)(hl:xs.length≤1099511627776):zaa Tryz.prog 84 [v] R fun _ r=>r = .int .i64 (orI xs):=by
 obtain⟨a,cap,rfl,hc,hf⟩:=h.form
 refine zac mix Tryz.func84 comp84 (by simp[Tryz.ntmps84]) ?_;simp only[go_sem,↓reduceIte,reduceCtorEq,vc84,rs84]
 refine zaj Nat (fun i=>[(8,.val (.int .i64 i)),(6,.val (.slice a xs.length cap)),(7,.val (.int .i64 xs.length)),(3,.val (.int .i64 0))]) (fun _=>[]) (fun i _=>i≤xs.length∧orI xs=orI (xs.drop i)) (fun i=>xs.length-i) 0 ?_ rfl ?_ ?_
 ·(try simp only[go_sem,↓reduceIte,Qa])<;>(repeat' (first|rfl|trivial|constructor|(intro h;exact absurd rfl h)))
 ·exact⟨Nat.zero_le _,by simp⟩
 rintro i env R1 hle hE ⟨hi,hp⟩
 (simp only[go_sem] at hE;obtain⟨e8,e6,e7,e3⟩:=hE;simp only[go_sem,↓reduceIte,Qa,e8,e6,e7,e3];dsimp only at *)
 refine⟨fun hlt=>⟨hlt,?_⟩,fun hge=>?_⟩
 ·have hlt':i<xs.length:=by omega
  obtain⟨ad,had,hR⟩:=hf i hlt'
  refine vat ad had ?_
  try simp only[go_sem,↓reduceIte]
  refine vload _ (hle _ _ hR) ?_
  simp only[go_sem,↓reduceIte,Qa,Qf,e8,e6,e7,e3]
  rw[List.drop_eq_getElem_cons hlt'] at hp
  refine⟨fun hne=>?_,fun heq=>?_⟩
  ·rw[hp,orI,if_neg hne]
  ·refine⟨_,W.in64 (by omega),i+1,by omega,by constructor,by omega,?_⟩
   rw[hp,orI,if_pos heq]
 ·obtain rfl:i=xs.length:=by omega
  rw[hp,List.drop_length];rfl
def lessE(a b:Ed):Bool:=decide (a.seq<b.seq∨a.seq=b.seq∧a.device<b.device)
def cmpE(a b:Ed):Int:=if cmpI a.seq b.seq=0 then cmpI a.device b.device else cmpI a.seq b.seq
theorem zhh(a b:Ed)(R:RO):zaa Tryz.prog 59 [a.val,b.val] R fun _ v=>v = .int .i64 (cmpE a b):=by
 simp only[Ed.val]
 refine zac mix Tryz.func59 comp59 (by simp[Tryz.ntmps59]) ?_;simp only[go_sem,↓reduceIte,Qa,vc59,rs59]
 refine vcall (zci a.seq b.seq R) ?_
 rintro R1 v h1 rfl
 try simp only[go_sem,↓reduceIte,Qa]
 refine vcall (zci a.device b.device R1) ?_
 rintro R2 v h2 rfl
 try simp only[go_sem,↓reduceIte,Qa,Qb,Qd]
 refine zez ?_
 try simp only[go_sem,↓reduceIte,Qb]
 intro bb cap R3 hle hrow hcap hfr
 have hI:Ints R3 (.slice (some ⟨bb,0,none⟩) 2 cap) [cmpI a.seq b.seq,cmpI a.device b.device]:=RowIn.ints (xs:=[cmpI a.seq b.seq,cmpI a.device b.device]) hrow (by simpa using hcap)
 refine vcall (eOr _ _ R3 hI (by simp)) ?_
 rintro R4 v h4 rfl
 try simp only[go_sem,↓reduceIte]
 unfold cmpE
 simp only[orI]
 by_cases h1:cmpI a.seq b.seq=0
 ·by_cases h2:cmpI a.device b.device=0<;>simp[h1,h2]
 ·simp[h1]
theorem zgN(a b:Ed):(cmpE a b<0)=(a.seq<b.seq∨a.seq=b.seq∧a.device<b.device):=by
 unfold cmpE cmpI
 apply propext
 split<;>split<;>(repeat' split)<;>omega
theorem eLess(a b:Ed)(R:RO):zaa Tryz.prog 60 [a.val,b.val] R fun _ v=>v = .bool (lessE a b):=by
 have h:=zhh a b
 simp only[Ed.val] at h ⊢
 refine zac mix Tryz.func60 comp60 (by simp[Tryz.ntmps60]) ?_;simp only[go_sem,↓reduceIte,Qa,Qb,vc60,rs60]
 refine vcall (h R) ?_
 rintro R1 v h1 rfl
 try simp only[go_sem,↓reduceIte]
 unfold lessE
 simp only[zgN]
def overE(a b:Ed):Bool :=
 if a.kind=1∧b.kind=1 then lessE a b&&decide (a.day=b.day)
 else if a.kind=1∧b.kind=3∨a.kind=2∧b.kind=2∨a.kind=3∧b.kind=3 then lessE a b&&decide (b.day≤a.day)
 else if a.kind=4∧b.kind=4 then lessE a b
 else if a.kind=1∧b.kind=5∨a.kind=2∧b.kind=5∨a.kind=3∧b.kind=5 then decide (b.day≤a.day)
 else if a.kind=5∧b.kind=5 then decide (b.day<a.day)||decide (b.day=a.day)&&lessE a b
 else false
theorem zjW(a b:Ed)(R:RO):zaa Tryz.prog 28 [a.val,b.val] R fun _ v=>v = .bool (overE a b):=by
 have hL:=eLess a b
 simp only[Ed.val] at hL ⊢
 refine zac mix Tryz.func28 comp28 (by simp[Tryz.ntmps28]) ?_;simp only[go_sem,↓reduceIte,Qa,Qb,vc28,rs28]
 refine vcall (hL R) ?_
 rintro R1 v h1 rfl
 try simp only[go_sem,↓reduceIte,Qa,Qb,Qd]
 unfold overE
 generalize lessE a b=l
 clear hL
 have hb:∀(p q:Prop) [Decidable p] [Decidable q],((decide p&&decide q)=false)=¬ (p∧q):=fun p q=>by simp
 simp only[hb]
 repeat' (with_reducible first|refine And.intro ?_ ?_|intro _)
 all_goals (congr 1)
 all_goals (try subst_vars)
 all_goals (repeat' split)
 all_goals first
  |rfl
  |(exfalso;omega)
  |(simp;done)
  |(simp;omega)
  |(cases l<;>simp<;>omega)
def mvZ(m:Mv):Bool:=decide (m.day=0)&&(m.drop==false&&(decide (m.toDay=0)&&(decide (m.minute=0)&&(decide (m.length=0)&&true))))
def restZ(mv:Bool)(minute length:Int)(rn:Nat)(z:Bool):Bool:=mv&&decide (minute=0)&&decide (length=0)&&decide ((rn:Int)=0)&&z
def kindE(e:Ed):Bool :=
 if e.kind=1 then zaU e.mv&&decide (e.mv.day=e.day)&&restZ true e.minute e.length e.rn (e.zone==⟨#[]⟩)
 else if e.kind=2 then betw 0 e.minute 1439&&betw 1 e.length 10080&&restZ (mvZ e.mv) 0 0 e.rn (e.zone==⟨#[]⟩)
 else if e.kind=3 then betw 1 e.rn 64&&restZ (mvZ e.mv) e.minute e.length 0 (e.zone==⟨#[]⟩)
 else if e.kind=4 then decide (e.day=0)&&betw 1 e.zone.size 32&&restZ (mvZ e.mv) e.minute e.length e.rn true
 else if e.kind=5 then restZ (mvZ e.mv) e.minute e.length e.rn (e.zone==⟨#[]⟩)
 else false
def zbg(e:Ed):Bool:=betw 0 e.device 15&&betw 1 e.seq 1099511627776&&betw 0 e.day 1099511627776&&kindE e
theorem zbO:((⟨#[]⟩:ByteArray)==⟨#[]⟩)=true:=rfl
theorem zlg(e:Ed)(R:RO):zaa Tryz.prog 55 [e.val] R fun _ v=>v = .bool (zbg e):=by
 have hm:=zge e.mv
 simp only[Ed.val,Mv.val] at hm ⊢
 refine zac mix Tryz.func55 comp55 (by simp[Tryz.ntmps55]) ?_;simp only[go_sem,↓reduceIte,Qa,vc55,rs55]
 refine vcall (zbx 0 e.device 15 R) ?_
 rintro R1 v h1 rfl
 try simp only[go_sem,↓reduceIte,Qa]
 refine⟨fun g1=>?_,fun g1=>by simp[zbg,g1]⟩
 refine vcall (zbx 1 e.seq 1099511627776 R1) ?_
 rintro R2 v h2 rfl
 try simp only[go_sem,↓reduceIte,Qa]
 refine⟨fun g2=>?_,fun g2=>by simp[zbg,g1,g2]⟩
 refine vcall (zbx 0 e.day 1099511627776 R2) ?_
 rintro R3 v h3 rfl
 try simp only[go_sem,↓reduceIte,Qa,Qb]
 refine⟨fun g3=>by simp[zbg,g1,g2,g3],fun g3=>?_⟩
 have hv:zbg e=kindE e:=by simp[zbg,g1,g2,g3]
 refine⟨fun k1=>?_,fun k1=>⟨fun k2=>?_,fun k2=>⟨fun k3=>?_,fun k3=>⟨fun k4=>?_,fun k4=>⟨fun k5=>?_,fun k5=>?_⟩⟩⟩⟩⟩
 ·rw[hv,kindE,if_pos k1]
  refine vcall (hm R3) ?_
  rintro R4 v h4 rfl
  try simp only[go_sem,↓reduceIte,Qa,Qb,Qd]
  repeat' (with_reducible first|refine And.intro ?_ ?_|intro _)
  all_goals (simp_all [restZ];done)
 ·rw[hv,kindE,if_neg k1,if_pos k2]
  refine vcall (zbx 0 e.minute 1439 R3) ?_
  rintro R4 v h4 rfl
  try simp only[go_sem,↓reduceIte,Qa,Qb,Qd]
  refine⟨fun g4=>?_,fun g4=>by simp[g4]⟩
  refine vcall (zbx 1 e.length 10080 R4) ?_
  rintro R5 v h5 rfl
  try simp only[go_sem,↓reduceIte,Qa,Qb,Qd]
  repeat' (with_reducible first|refine And.intro ?_ ?_|intro _)
  all_goals (simp_all [restZ,mvZ];done)
 ·rw[hv,kindE,if_neg k1,if_neg k2,if_pos k3]
  refine vcall (zbx 1 e.rn 64 R3) ?_
  rintro R4 v h4 rfl
  try simp only[go_sem,↓reduceIte,Qa,Qb,Qd]
  repeat' (with_reducible first|refine And.intro ?_ ?_|intro _)
  all_goals (simp_all [restZ,mvZ];done)
 ·rw[hv,kindE,if_neg k1,if_neg k2,if_neg k3,if_pos k4]
  refine⟨fun g4=>?_,fun g4=>by simp[g4]⟩
  refine vcall (zbx 1 e.zone.size 32 R3) ?_
  rintro R4 v h4 rfl
  try simp only[go_sem,↓reduceIte,Qa,Qb]
  repeat' (with_reducible first|refine And.intro ?_ ?_|intro _)
  all_goals (simp_all [restZ,mvZ,zbO];done)
 ·rw[hv,kindE,if_neg k1,if_neg k2,if_neg k3,if_neg k4,if_pos k5]
  repeat' (with_reducible first|refine And.intro ?_ ?_|intro _)
  all_goals (simp_all [restZ,mvZ];done)
 ·rw[hv,kindE,if_neg k1,if_neg k2,if_neg k3,if_neg k4,if_neg k5]
structure Nd where
 kind:Int
 cal:Int
 l:Int
 r:Int
 n:Int
 m:Int
 list:List Int
 name:ByteArray
 deriving DecidableEq
def Nd.cells(x:Nd)(lv:Value):List Value:=[.int .i64 x.kind,.int .i64 x.cal,.int .i64 x.l,.int .i64 x.r,.int .i64 x.n,.int .i64 x.m,lv,.string x.name]
def NodeV(R:RO)(cs:List Value)(x:Nd):Prop:=∃lv,cs=x.cells lv∧Ints R lv x.list∧x.list.length≤1000000000
theorem NodeV.mono{R R':RO}{cs:List Value}{x:Nd}(h:NodeV R cs x)(hle:RO.le R R'):NodeV R' cs x:=by
 obtain⟨lv,e,h,hl⟩:=h
 exact⟨lv,e,h.mono hle,hl⟩
def RuleV(R:RO)(v:Value)(xs:List Nd):Prop:=∃cs:List (List Value),SlK R v 8 cs∧cs.length=xs.length∧(∀(i:Nat) (c:List Value) (x:Nd),cs[i]?=some c→xs[i]?=some x→NodeV R c x)∧xs.length≤1000000000
theorem RuleV.mono{R R':RO}{v:Value}{xs:List Nd}(h:RuleV R v xs)(hle:RO.le R R'):RuleV R' v xs:=by
 obtain⟨cs,h1,h2,h3,h4⟩:=h
 exact⟨cs,h1.mono hle,h2,fun i c x (hi:cs[i]?=some c) (hx:xs[i]?=some x)=>(h3 i c x hi hx).mono hle,h4⟩
theorem zph(xs ys:List Int)(v u:Value)(R:RO)(h:Ints R v xs)(k:Ints R u ys)(hl:xs.length≤1099511627776):zaa Tryz.prog 99 [v,u] R fun _ r=>r = .bool (decide (xs=ys)):=by
 obtain⟨a,cap,rfl,hc,hf⟩:=h.form
 obtain⟨b,cap',rfl,hc',hf'⟩:=k.form
 refine zac mix Tryz.func99 comp99 (by simp[Tryz.ntmps99]) ?_;simp only[go_sem,↓reduceIte,Qa,reduceCtorEq,vc99,rs99]
 refine⟨fun hne=>?_,fun he=>?_⟩
 ·rw[decide_eq_false];rintro rfl;exact hne rfl
 have he':xs.length=ys.length:=by omega
 refine zaj Nat (fun i=>[(13,.val (.int .i64 i)),(0,.val (.slice a xs.length cap)),(11,.val (.slice a xs.length cap)),(12,.val (.int .i64 xs.length)),(1,.val (.slice b ys.length cap'))]) (fun _=>[]) (fun i _=>i≤xs.length∧xs.take i=ys.take i) (fun i=>xs.length-i) 0 ?_ rfl ?_ ?_
 ·(try simp only[go_sem,↓reduceIte,Qa,reduceCtorEq])<;>(repeat' (first|rfl|trivial|constructor|(intro h;exact absurd rfl h)))
 ·exact⟨Nat.zero_le _,rfl⟩
 rintro i env R1 hle hE ⟨hi,hp⟩
 (simp only[go_sem] at hE;obtain⟨e13,e0,e11,e12,e1⟩:=hE;simp only[go_sem,↓reduceIte,Qa,reduceCtorEq,e13,e0,e12];dsimp only at *)
 refine⟨fun hlt=>⟨hlt,?_⟩,fun hge=>?_⟩
 ·have hlt':i<xs.length:=by omega
  obtain⟨ad,had,hR⟩:=hf i hlt'
  obtain⟨ad',had',hR'⟩:=hf' i (by omega)
  refine vat ad had ?_
  try simp only[go_sem,↓reduceIte]
  refine vload _ (hle _ _ hR) ?_
  simp only[go_sem,↓reduceIte,Qa,e1]
  refine⟨by omega,vat ad' had' ?_⟩
  try simp only[go_sem,↓reduceIte]
  refine vload _ (hle _ _ hR') ?_
  simp only[go_sem,↓reduceIte,Qa,Qf,reduceCtorEq,e13,e0,e11,e12,e1]
  refine⟨fun hne=>?_,fun heq=>?_⟩
  ·rw[decide_eq_false];rintro rfl;exact hne rfl
  ·refine⟨_,W.in64 (by omega),i+1,by omega,by constructor,by omega,?_⟩
   rw[List.take_succ_eq_append_getElem hlt',List.take_succ_eq_append_getElem (by omega:i<ys.length),hp,heq]
 ·obtain rfl:i=xs.length:=by omega
  rw[List.take_length,he',List.take_length] at hp
  simp[hp]
theorem zb4(a:ByteArray):(a==a)=true:=by
 obtain⟨x⟩:=a
 show(x==x)=true
 exact beq_self_eq_true x
theorem zcM{a b:ByteArray}(h:(a==b)=true):a=b:=by
 obtain⟨x⟩:=a
 obtain⟨y⟩:=b
 have h':(x==y)=true:=h
 rw[eq_of_beq h']
theorem zlh(x y:Nd)(cx cy:List Value)(R:RO)(hx:NodeV R cx x)(hy:NodeV R cy y):zaa Tryz.prog 98 [.agg cx.toArray,.agg cy.toArray] R fun _ r=>r = .bool (decide (x=y)):=by
 obtain⟨lv,rfl,hi,hl⟩:=hx
 obtain⟨lu,rfl,hi',hl'⟩:=hy
 obtain⟨kind,cal,l,r,n,m,list,name⟩:=x
 obtain⟨kind',cal',l',r',n',m',list',name'⟩:=y
 simp only[Nd.cells] at *
 refine zac mix Tryz.func98 comp98 (by simp[Tryz.ntmps98]) ?_;simp only[go_sem,↓reduceIte,Qa,vc98,rs98]
 have hb:(name==name')=decide (name=name'):=by
  by_cases e:name=name'
  ·subst e
   simp only[decide_true]
   exact zb4 name
  ·rw[decide_eq_false e]
   cases hq:(name==name') with
   |false=>rfl
   |true=>exact absurd (zcM hq) e
 rw[hb]
 simp only[Nd.mk.injEq]
 repeat' (with_reducible first|refine And.intro ?_ ?_|intro _)
 ·refine vcall (zph list list' lv lu R hi hi' (by omega)) ?_
  rintro R1 v h1 rfl
  try simp only[go_sem,↓reduceIte,Qa]
  simp_all
 all_goals simp_all
theorem SlK.form{R:RO}{v:Value}{k:Nat}{cs:List (List Value)}(h:SlK R v k cs):∃a cap,v = .slice a cs.length cap∧cs.length≤cap∧∀i (hi:i<cs.length),(cs[i]).length=k∧∃ad,a=some ad∧∀j u,(cs[i])[j]?=some u→R ((ad.add (i*k)).add j) u:=by
 obtain⟨a,cap,e,hc,h⟩:=h
 exact⟨a,cap,e,hc,fun i hi=>h i _ (List.getElem?_eq_getElem hi)⟩
theorem hb62:zaB Tryz.prog 98=true:=by kernel_rfl
theorem zjX(xs ys:List Nd)(v u:Value)(R:RO)(h:RuleV R v xs)(k:RuleV R u ys):zaa Tryz.prog 85 [v,u,.func (.func 98) #[] #[]] R fun _ r=>r = .bool (decide (xs=ys)):=by
 obtain⟨cs,h1,h2,h3,h4⟩:=h
 obtain⟨ds,k1,k2,k3,k4⟩:=k
 obtain⟨a,cap,rfl,hc,hf⟩:=SlK.form h1
 obtain⟨b,cap',rfl,hc',hf'⟩:=SlK.form k1
 refine zac mix Tryz.func85 comp85 (by simp[Tryz.ntmps85]) ?_;simp only[go_sem,↓reduceIte,Qa,reduceCtorEq,vc85,rs85]
 refine⟨fun hne=>?_,fun he=>?_⟩
 ·rw[decide_eq_false];rintro rfl;exact hne (by omega)
 have he':xs.length=ys.length:=by omega
 refine zaj Nat (fun i=>[(17,.val (.int .i64 i)),(0,.val (.slice a cs.length cap)),(15,.val (.slice a cs.length cap)),(16,.val (.int .i64 cs.length)),(1,.val (.slice b ds.length cap')),(2,.val (.func (.func 98) #[] #[]))]) (fun _=>[]) (fun i _=>i≤cs.length∧xs.take i=ys.take i) (fun i=>cs.length-i) 0 ?_ rfl ?_ ?_
 ·(try simp only[go_sem,↓reduceIte,Qa,reduceCtorEq])<;>(repeat' (first|rfl|trivial|constructor|(intro h;exact absurd rfl h)))
 ·exact⟨Nat.zero_le _,rfl⟩
 rintro i env R1 hle hE ⟨hi,hp⟩
 (simp only[go_sem] at hE;obtain⟨e17,e0,e15,e16,e1,e2⟩:=hE;simp only[go_sem,↓reduceIte,Qa,e17,e15,e16];dsimp only at *)
 refine⟨fun hlt=>⟨hlt,?_⟩,fun hge=>?_⟩
 ·have hlt':i<cs.length:=by omega
  obtain⟨hl,ad,had,hR⟩:=hf i hlt'
  obtain⟨hl',ad',had',hR'⟩:=hf' i (by omega)
  have hx:=h3 i _ _ (List.getElem?_eq_getElem hlt') (List.getElem?_eq_getElem (by omega))
  have hy:=k3 i _ _ (List.getElem?_eq_getElem (by omega:i<ds.length)) (List.getElem?_eq_getElem (by omega:i<ys.length))
  obtain⟨x,hxe⟩:∃x,x=xs[i]'(by omega):=⟨_,rfl⟩
  obtain⟨y,hye⟩:∃y,y=ys[i]'(by omega):=⟨_,rfl⟩
  rw[←hxe] at hx
  rw[←hye] at hy
  have hx':=hx
  have hy':=hy
  obtain⟨lv,hcx,hI,hIl⟩:=hx
  obtain⟨lu,hcy,hI',hIl'⟩:=hy
  have ho:lv.oneCell'=true:=by obtain⟨_,_,rfl,_⟩:=hI.form;rfl
  have ho':lu.oneCell'=true:=by obtain⟨_,_,rfl,_⟩:=hI'.form;rfl
  rw[hcx] at hR hx'
  rw[hcy] at hR' hy'
  refine vat ad had ?_
  try simp only[go_sem,↓reduceIte]
  refine zaf (x.cells lv) rfl (fun j u hj=>hle _ _ (hR j u hj)) ?_
  simp only[go_sem,↓reduceIte,Qa,Qb,Nd.cells,e1]
  refine⟨ho,by omega,vat ad' had' ?_⟩
  try simp only[go_sem,↓reduceIte]
  refine zaf (y.cells lu) rfl (fun j u hj=>hle _ _ (hR' j u hj)) ?_
  simp only[go_sem,↓reduceIte,Qa,Qb,Nd.cells,e2]
  refine⟨ho',?_⟩
  refine⟨hb62,vcall (zlh x y _ _ R1 (hx'.mono hle) (hy'.mono hle)) ?_⟩
  rintro R2 w h6 rfl
  simp only[go_sem,↓reduceIte,Qa,Qf,reduceCtorEq,e17,e0,e15,e16,e1,e2]
  refine⟨fun hne=>?_,fun heq=>?_⟩
  ·rw[decide_eq_false];rintro rfl;exact hne (by rw[hxe,hye])
  ·refine⟨_,W.in64 (by omega),i+1,by omega,by constructor,by omega,?_⟩
   rw[List.take_succ_eq_append_getElem (by omega:i<xs.length),List.take_succ_eq_append_getElem (by omega:i<ys.length),hp,←hxe,←hye,heq]
 ·obtain rfl:i=cs.length:=by omega
  rw[h2,List.take_length,he',List.take_length] at hp
  simp[hp]
structure De where
 kind:Int
 day:Int
 device:Int
 seq:Int
 mv:Mv
 minute:Int
 length:Int
 rule:List Nd
 zone:ByteArray
 deriving DecidableEq
def De.ed(d:De)(a:Option Addr)(n c:Nat):Ed:=⟨d.kind,d.day,d.device,d.seq,d.mv,d.minute,d.length,a,n,c,d.zone⟩
def EdV(R:RO)(cs:List Value)(d:De):Prop:=∃a n c,.agg cs.toArray=(d.ed a n c).val∧RuleV R (.slice a n c) d.rule
theorem EdV.mono{R R':RO}{cs:List Value}{d:De}(h:EdV R cs d)(hle:RO.le R R'):EdV R' cs d:=by
 obtain⟨a,n,c,e,h⟩:=h
 exact⟨a,n,c,e,h.mono hle⟩
theorem RuleV.len{R:RO}{a:Option Addr}{n c:Nat}{xs:List Nd}(h:RuleV R (.slice a n c) xs):n=xs.length:=by
 obtain⟨cs,⟨a',cap,e,_⟩,h2,_⟩:=h
 simp only[Value.slice.injEq] at e
 omega
theorem zhi(xs ys:List Nd)(v u:Value)(R:RO)(h:RuleV R v xs)(k:RuleV R u ys):zaa Tryz.prog 63 [v,u] R fun _ r=>r = .bool (decide (xs=ys)):=by
 have hc:=zjX xs ys v u R h k
 obtain⟨cs,⟨a,cap,rfl,_⟩,h2,_⟩:=h
 obtain⟨ds,⟨b,cap',rfl,_⟩,k2,_⟩:=k
 refine zac mix Tryz.func63 comp63 (by simp[Tryz.ntmps63]) ?_;simp only[go_sem,↓reduceIte,Qa,reduceCtorEq,vc63,rs63]
 refine vcall hc ?_
 rintro R1 v h1 rfl
 try simp only[go_sem,↓reduceIte]
theorem eSame(x y:De)(cx cy:List Value)(R:RO)(hx:EdV R cx x)(hy:EdV R cy y):zaa Tryz.prog 56 [.agg cx.toArray,.agg cy.toArray] R fun _ r=>r = .bool (decide (x=y)):=by
 obtain⟨a,n,c,e,h⟩:=hx
 obtain⟨a',n',c',e',h'⟩:=hy
 rw[e,e']
 clear e e'
 obtain⟨kind,day,device,seq,mv,minute,length,rule,zone⟩:=x
 obtain⟨kind',day',device',seq',mv',minute',length',rule',zone'⟩:=y
 obtain⟨md,mr,mt,mm,ml⟩:=mv
 obtain⟨md',mr',mt',mm',ml'⟩:=mv'
 simp only[De.ed,Ed.val] at *
 refine zac mix Tryz.func56 comp56 (by simp[Tryz.ntmps56]) ?_;simp only[go_sem,↓reduceIte,Qa,Qb,vc56,rs56]
 have hb:(zone==zone')=decide (zone=zone'):=by
  by_cases e:zone=zone'
  ·subst e
   simp only[decide_true]
   exact zb4 zone
  ·rw[decide_eq_false e]
   cases hq:(zone==zone') with
   |false=>rfl
   |true=>exact absurd (zcM hq) e
 rw[hb]
 simp only[De.mk.injEq,Mv.mk.injEq]
 repeat' (with_reducible first|refine And.intro ?_ ?_|intro _)
 ·refine vcall (zhi rule rule' _ _ R h h') ?_
  rintro R1 v h1 rfl
  try simp only[go_sem,↓reduceIte,Qa]
  simp_all
 all_goals (clear h h')
 all_goals simp_all
theorem zef(xs:List Int)(v:Value)(R:RO)(h:Ints R v xs)(hl:xs.length≤1000000000):zaa Tryz.prog 94 [v] R fun R' u=>Ints R' u xs:=by
 obtain⟨a,cap,rfl,hc,hf⟩:=h.form
 refine zac mix Tryz.func94 comp94 (by simp[Tryz.ntmps94]) ?_;simp only[go_sem,↓reduceIte,reduceCtorEq,vc94,rs94]
 refine⟨fun hn=>?_,fun hs=>?_⟩
 ·have:xs=[]:=by
   cases xs with
   |nil=>rfl
   |cons x r =>
    obtain⟨ad,e,_⟩:=hf 0 (by simp)
    rw[e] at hn;cases hn
  subst this
  exact Ints.nil R
 ·refine vsrc (xs.map (.int .i64)) (by simp) (fun u hu=>by obtain⟨_,_,rfl⟩:=List.mem_map.1 hu;rfl) (fun hne=>?_) ?_
  ·cases ha:a with
   |none=>rw[ha] at hs;cases hs
   |some ad =>
    refine⟨ad,rfl,fun i u hi=>?_⟩
    rw[List.getElem?_map] at hi
    obtain⟨x,hx,rfl⟩:=Option.map_eq_some_iff.1 hi
    obtain⟨hlt,rfl⟩:=List.getElem?_eq_some_iff.1 hx
    obtain⟨ad',e,hR⟩:=hf i hlt
    rw[ha] at e
    simp only[Option.some.injEq] at e
    subst e
    exact hR
  try simp only[go_sem,↓reduceIte,Qa,Qb]
  refine vappO [] rfl rfl (by omega) ?_
  try simp only[go_sem,↓reduceIte]
  intro b cap' R' hle hrow hcap hfr
  have:=RowIn.ints (xs:=xs) (cap:=cap') hrow (by simpa using hcap)
  simpa using this
theorem zjj{α:Type}{k:Nat}{cs:List (List α)}(hk:∀us∈cs,us.length=k)(h0:0<k){i:Nat}{v:α}(h:cs.flatten[i]?=some v):∃us,cs[i/k]?=some us∧us[i%k]?=some v:=by
 have hlt:=(List.getElem?_eq_some_iff.1 h).1
 rw[zag hk] at hlt
 have hq:i/k<cs.length:=(Nat.div_lt_iff_lt_mul h0).2 hlt
 refine⟨cs[i/k],List.getElem?_eq_getElem hq,?_⟩
 have h1:=getElem?_flatten hk (i/k) (i%k) _ (List.getElem?_eq_getElem hq) (Nat.mod_lt _ h0)
 rw[Nat.mul_comm,Nat.div_add_mod] at h1
 rw[←h1];exact h
theorem NodeV.one{R:RO}{c:List Value}{x:Nd}(h:NodeV R c x):c.length=8∧∀u∈c,u.oneCell'=true:=by
 obtain⟨lv,rfl,hI,_⟩:=h
 obtain⟨_,_,rfl,_⟩:=hI.form
 refine⟨rfl,fun u hu=>?_⟩
 simp only[Nd.cells,List.mem_cons,List.not_mem_nil,or_false] at hu
 rcases hu with rfl|rfl|rfl|rfl|rfl|rfl|rfl|rfl<;>rfl
theorem zgf(xs:List Nd)(v:Value)(R:RO)(h:RuleV R v xs)(hl:xs.length≤1000000000):zaV Tryz.prog 93 [.val v] [] R fun R' bs r=>∃cs:List (List Value),cs.length=xs.length∧(∀c∈cs,c.length=8)∧(∀(i:Nat) (c:List Value) (x:Nd),cs[i]?=some c→xs[i]?=some x→NodeV R' c x) ∧
  (xs=[]∧bs=[]∧r = .val (.slice none 0 0)∨bs=[.dead,.row 87 8 cs.flatten]∧r = .sl 1 xs.length):=by
 obtain⟨cs,h1,h2,h3,h4⟩:=h
 obtain⟨a,cap,rfl,hc,hf⟩:=SlK.form h1
 refine zdj mix Tryz.func93 comp93 (by simp[Tryz.ntmps93]) rfl rfl ?_;simp only[go_sem,↓reduceIte,reduceCtorEq,vc93,rs93]
 refine⟨fun hn=>?_,fun hs=>?_⟩
 ·have hx:xs=[]:=by
   cases hcs:cs with
   |nil=>rw[hcs] at h2;exact List.eq_nil_of_length_eq_zero h2.symm
   |cons x r =>
    obtain⟨_,ad,e,_⟩:=hf 0 (by simp[hcs])
    rw[e] at hn;cases hn
  subst hx
  exact⟨[],rfl,by simp,by simp,rfl⟩
 ·have hfl:=zag (k:=8) (xs:=cs) (fun us hus=>by
   obtain⟨i,hi,rfl⟩:=List.mem_iff_getElem.1 hus
   exact(hf i hi).1)
  have hn:∀c∈cs,∃x,NodeV R c x:=fun c hc'=>by
   obtain⟨i,hi,rfl⟩:=List.mem_iff_getElem.1 hc'
   exact⟨_,h3 i _ _ (List.getElem?_eq_getElem hi) (List.getElem?_eq_getElem (by omega))⟩
  refine vsrc cs.flatten (by rw[hfl]) (fun u hu=>?_) (fun hne=>?_) ?_
  ·obtain⟨c,hc',hu'⟩:=List.mem_flatten.1 hu
   obtain⟨x,hx⟩:=hn c hc'
   exact hx.one.2 u hu'
  ·cases ha:a with
   |none=>rw[ha] at hs;cases hs
   |some ad =>
    refine⟨ad,rfl,fun i u hi=>?_⟩
    obtain⟨us,hus,hu⟩:=zjj (fun us hus=>by
     obtain⟨x,hx⟩:=hn us hus
     exact hx.one.1) (by omega) hi
    obtain⟨hlt,rfl⟩:=List.getElem?_eq_some_iff.1 hus
    obtain⟨_,ad',e,hR⟩:=hf _ hlt
    rw[ha] at e
    simp only[Option.some.injEq] at e
    subst e
    have:=hR _ _ hu
    rw[zdk,Nat.mul_comm,Nat.div_add_mod] at this
    exact this
  try simp only[go_sem,↓reduceIte,Qa,Qb]
  refine vappO [] rfl rfl (by omega) ?_
  try simp only[go_sem,↓reduceIte,reduceCtorEq]
  exact⟨cs,h2,fun c hc=>by obtain⟨x,hx⟩:=hn c hc;exact hx.one.1,h3,.inr ⟨⟨rfl,rfl⟩,by rw[h2]⟩⟩
theorem zeV{α:Type}{k:Nat}:∀(cs:List (List α)) (_:∀us∈cs,us.length=k) (i j:Nat) (v:α) (us:List α),cs[i]?=some us→j<k→cs.flatten.set (i*k+j) v=(cs.set i (us.set j v)).flatten
 |[],_,i,j,v,us,h,_=>by simp at h
 |c::cs,hk,0,j,v,us,h,hj=>by
  simp only[List.getElem?_cons_zero,Option.some.injEq] at h
  subst h
  simp only[List.flatten_cons,Nat.zero_mul,Nat.zero_add,List.set_cons_zero]
  rw[List.set_append_left _ _ (by rw[hk c (by simp)];exact hj)]
 |c::cs,hk,i+1,j,v,us,h,hj=>by
  simp only[List.getElem?_cons_succ] at h
  have ih:=zeV cs (fun us hus=>hk us (by simp[hus])) i j v us h hj
  have hl:=hk c (by simp)
  simp only[List.flatten_cons,List.set_cons_succ]
  rw[List.set_append_right _ _ (by rw[hl,Nat.add_mul];omega),hl,←ih]
  congr 2
  rw[Nat.add_mul];omega
def Nodes(R:RO)(cs:List (List Value))(xs:List Nd):Prop:=cs.length=xs.length∧∀(i:Nat) (c:List Value) (x:Nd),cs[i]?=some c→xs[i]?=some x→NodeV R c x
theorem Nodes.mono{R R':RO}{cs:List (List Value)}{xs:List Nd}(h:Nodes R cs xs)(hle:RO.le R R'):Nodes R' cs xs:=⟨h.1,fun i c x h1 h2=>(h.2 i c x h1 h2).mono hle⟩
theorem Nodes.len{R:RO}{cs:List (List Value)}{xs:List Nd}(h:Nodes R cs xs):∀c∈cs,c.length=8:=fun c hc=>by
 obtain⟨i,hi,rfl⟩:=List.mem_iff_getElem.1 hc
 exact(h.2 i _ _ (List.getElem?_eq_getElem hi) (List.getElem?_eq_getElem (by rw[←h.1];exact hi))).one.1
theorem zli(xs:List Nd)(v:Value)(R:RO)(h:RuleV R v xs):zaa Tryz.prog 57 [v] R fun R' u=>RuleV R' u xs:=by
 have hxl:xs.length≤1000000000:=by obtain⟨_,_,_,_,h⟩:=h;exact h
 have hcl:=zgf xs v R h hxl
 obtain⟨cs0,⟨a,cap,rfl,_⟩,_⟩:=h
 refine zac mix Tryz.func57 comp57 (by simp[Tryz.ntmps57]) ?_;simp only[go_sem,↓reduceIte,reduceCtorEq,vc57,rs57]
 refine znu [] [.val (.slice a cs0.length cap)] [] hcl rfl rfl rfl trivial (by simp) rfl rfl ?_
 rintro R1 bs r hle1 ⟨cs,h1,h2,h3,h4⟩ _
 rcases h4 with⟨rfl,rfl,rfl⟩|⟨rfl,rfl⟩
 ·try simp only[go_sem,↓reduceIte,Jd]
  refine zaj Unit (fun _=>[(9,.val (.int .i64 0)),(8,.val (.int .i64 0)),(3,.val (.slice none 0 0))]) (fun _=>[]) (fun _ _=>True) (fun _=>0) () ?_ rfl trivial ?_
  ·(try simp only[go_sem,↓reduceIte,Qa])<;>(repeat' (first|rfl|trivial|constructor|(intro h;exact absurd rfl h)))
  rintro _ env R2 hle hE _
  (simp only[go_sem] at hE;obtain⟨e9,e8,e3⟩:=hE;simp only[go_sem,↓reduceIte,Qa,e9,e8,e3];dsimp only at *)
  exact⟨fun h=>absurd h (by omega),fun _=>⟨[],⟨none,0,rfl,Nat.le_refl _,by simp⟩,rfl,by simp,by simp⟩⟩
 ·try simp only[go_sem,↓reduceIte,Qb]
  have hN:Nodes R1 cs xs:=⟨h1,h3⟩
  clear h1 h2 h3 hcl
  refine zaj (Nat×List (List Value)) (fun p=>[(9,.val (.int .i64 p.1)),(8,.val (.int .i64 xs.length)),(3,.sl 1 xs.length)]) (fun p=>[.dead,.row 87 8 p.2.flatten]) (fun p R=>p.1≤xs.length∧Nodes R p.2 xs) (fun p=>xs.length-p.1) (0,cs) ?_ rfl ?_ ?_
  ·(try simp only[go_sem,↓reduceIte,Qa,Qb])<;>(repeat' (first|rfl|trivial|constructor|(intro h;exact absurd rfl h)))
  ·exact⟨Nat.zero_le _,hN⟩
  rintro⟨i,cs⟩ env R2 hle hE ⟨hi,hN⟩
  (simp only[go_sem] at hE;obtain⟨e9,e8,e3⟩:=hE;simp only[go_sem,↓reduceIte,Qa,Qb,e9,e8,e3];dsimp only at *)
  have hlen:=hN.1
  have h8:=hN.len
  have hfl:=zag h8
  refine⟨fun hlt=>⟨hlt,?_⟩,fun hge=>?_⟩
  ·have hlt':i<xs.length:=by omega
   have hx:=hN.2 i _ _ (List.getElem?_eq_getElem (by omega:i<cs.length)) (List.getElem?_eq_getElem hlt')
   obtain⟨lv,hcx,hI,hIl⟩:=hx
   have hget:cs.flatten[i*8+6]?=some lv:=by
    rw[getElem?_flatten h8 i 6 _ (List.getElem?_eq_getElem (by omega:i<cs.length)) (by omega),hcx]
    rfl
   refine⟨lv,hget,vcall (zef _ lv R2 hI hIl) ?_⟩
   intro R3 u hle3 hu
   obtain⟨ua,ucap,rfl,hucap,huf⟩:=hu.form
   try simp only[go_sem,↓reduceIte,Qa,Qb,Qe,Qf,e9,e8,e3]
   refine⟨hlt,by omega,_,W.in64 (by omega),(i+1,cs.set i (xs[i].cells (.slice ua (xs[i]).list.length ucap))),by dsimp only;omega,?_,by dsimp only;omega,by simp[hlen],?_⟩
   ·refine⟨rfl,?_⟩
    rw[zeV cs h8 i 6 _ _ (List.getElem?_eq_getElem (by omega:i<cs.length)) (by omega),hcx]
    rfl
   ·intro j c x hj hx
    rw[List.getElem?_set] at hj
    split at hj
    ·rename_i hij
     subst hij
     rw[if_pos (by omega)] at hj
     simp only[Option.some.injEq] at hj
     rw[List.getElem?_eq_getElem hlt'] at hx
     simp only[Option.some.injEq] at hx
     subst hj hx
     exact⟨_,rfl,hu,hIl⟩
    ·exact(hN.2 j c x hj hx).mono hle3
  ·intro b cap' R3 hle3 hrow hcap hfr
   exact⟨cs,by rw[←hlen];exact RowIn.slK hrow h8 (by omega) hcap,hlen,fun j c x hj hx=>(hN.2 j c x hj hx).mono hle3,hxl⟩
theorem zc1(x n:Int)(h:1≤n∧n≤1000)(R:RO):zaa Tryz.prog 22 [.int .i64 x,.int .i64 n] R fun _ v=>v = .int .i64 (x%n):=by
 refine zac mix Tryz.func22 comp22 (by simp[Tryz.ntmps22]) ?_;simp only[go_sem,↓reduceIte,Qa,reduceCtorEq,vc22,rs22]
 have h1:=zd8 x n h.1
 have h2:=zhd x n h.1
 refine⟨by omega,fun h=>⟨_,W.in64 (by omega),?_⟩,fun h=>?_⟩
 ·rw[if_pos h] at h1;rw[h1]
 ·rw[if_neg h] at h1;rw[h1]
def ruleN(n:Int):List Nd:=[⟨1,0,0,0,1+n%3,0,[],⟨#[]⟩⟩]
theorem eRule(n:Int)(R:RO):zaa Tryz.prog 21 [.int .i64 n] R fun R' v=>RuleV R' v (ruleN n):=by
 refine zac mix Tryz.func21 comp21 (by simp[Tryz.ntmps21]) ?_;simp only[go_sem,↓reduceIte,reduceCtorEq,vc21,rs21]
 refine vcall (zc1 n 3 (by omega) R) ?_
 rintro R1 v h1 rfl
 try simp only[go_sem,↓reduceIte,Qb,Qd]
 refine⟨_,W.in64 (by omega),?_⟩
 try simp only[go_sem,↓reduceIte,Qa,Qb,Qc,Qd,Qe,Qf,reduceCtorEq,Ja,Jb,Jc,Jd,Je,Jf]
 intro b cap R' hle hrow hcap hfr
 refine⟨[[.int .i64 1,.int .i64 0,.int .i64 0,.int .i64 0,.int .i64 (1+n%3),.int .i64 0,.slice none 0 0,.string ⟨#[]⟩]],?_,rfl,?_,by simp[ruleN]⟩
 ·exact RowIn.slK (k:=8) (xs:=[[.int .i64 1,.int .i64 0,.int .i64 0,.int .i64 0,.int .i64 (1+n%3),.int .i64 0,.slice none 0 0,.string ⟨#[]⟩]]) hrow (by simp) (by omega) (by simpa using hcap)
 ·intro i c x hc hx
  cases i with
  |zero =>
   simp only[List.getElem?_cons_zero,Option.some.injEq,ruleN] at hc hx
   subst hc hx
   exact⟨_,rfl,Ints.nil _,by simp⟩
  |succ i=>simp at hc
def Ed.cells(e:Ed):List Value:=[.int .i64 e.kind,.int .i64 e.day,.int .i64 e.device,.int .i64 e.seq,.int .i64 e.mv.day,.bool e.mv.drop,.int .i64 e.mv.toDay,.int .i64 e.mv.minute,.int .i64 e.mv.length,.int .i64 e.minute,.int .i64 e.length,.slice e.ra e.rn e.rc,.string e.zone]
theorem EdV.form{R:RO}{cs:List Value}{d:De}(h:EdV R cs d):∃a n c,cs=(d.ed a n c).cells∧RuleV R (.slice a n c) d.rule:=by
 obtain⟨a,n,c,e,h⟩:=h
 refine⟨a,n,c,?_,h⟩
 simp only[Ed.val,Value.agg.injEq] at e
 have:=congrArg Array.toList e
 simpa[Ed.cells] using this
def EdsV(R:RO)(v:Value)(ds:List De):Prop:=∃cs:List (List Value),SlK R v 13 cs∧cs.length=ds.length∧(∀(i:Nat) (c:List Value) (d:De),cs[i]?=some c→ds[i]?=some d→EdV R c d)∧ds.length≤1000000000
theorem EdsV.mono{R R':RO}{v:Value}{ds:List De}(h:EdsV R v ds)(hle:RO.le R R'):EdsV R' v ds:=by
 obtain⟨cs,h1,h2,h3,h4⟩:=h
 exact⟨cs,h1.mono hle,h2,fun i c x hi hx=>(h3 i c x hi hx).mono hle,h4⟩
theorem EdsV.form{R:RO}{v:Value}{ds:List De}(h:EdsV R v ds):∃a cap,v = .slice a ds.length cap∧ds.length≤cap∧∀i (hi:i<ds.length),∃ad ra rn rc,a=some ad∧(∀j u,((ds[i].ed ra rn rc).cells)[j]?=some u→R ((ad.add (i*13)).add j) u)∧RuleV R (.slice ra rn rc) (ds[i]).rule:=by
 obtain⟨cs,h1,h2,h3,h4⟩:=h
 obtain⟨a,cap,rfl,hc,hf⟩:=SlK.form h1
 refine⟨a,cap,by rw[h2],by omega,fun i hi=>?_⟩
 obtain⟨_,ad,ha,hR⟩:=hf i (by omega)
 obtain⟨ra,rn,rc,e,hr⟩:=(h3 i _ _ (List.getElem?_eq_getElem (by omega)) (List.getElem?_eq_getElem hi)).form
 rw[e] at hR
 exact⟨ad,ra,rn,rc,ha,hR,hr⟩
structure Se where
 rule:Value
 minute:Int
 length:Int
 zone:ByteArray
 gap:Int
 fold:Int
 moves:Value
def Se.cells(s:Se):List Value:=[s.rule,.int .i64 s.minute,.int .i64 s.length,.string s.zone,.int .i64 s.gap,.int .i64 s.fold,s.moves]
def endE(ds:List De):Int:=ds.foldl (fun e d=>if d.kind=5 then d.day else e) 1099511627777
theorem zq3(s:Se)(ds:List De)(v:Value)(R:RO)(hr:s.rule.oneCell'=true)(hm:s.moves.oneCell'=true)(h:EdsV R v ds):zaa Tryz.prog 30 [.agg s.cells.toArray,v] R fun _ u=>u = .agg (s.cells++[v,.int .i64 (endE ds)]).toArray:=by
 have hdl:ds.length≤1000000000:=by obtain⟨_,_,_,_,h⟩:=h;exact h
 obtain⟨a,cap,rfl,hc,hf⟩:=h.form
 simp only[Se.cells]
 refine zac mix Tryz.func30 comp30 (by simp[Tryz.ntmps30]) ?_;simp only[go_sem,↓reduceIte,Qa,Qb,Qd,vc30,rs30]
 refine⟨⟨hr,hm⟩,?_⟩
 refine zaj Nat (fun i=>[(13,.val (.int .i64 i)),(12,.val (.int .i64 ds.length)),(11,.val (.slice a ds.length cap)),(5,.loc 2 0),(4,.loc 1 0)])
  (fun i=>[.dead,.box [.val (.slice none 0 0),.val (.int .i64 0),.val (.int .i64 0),.val (.string ⟨#[]⟩),.val (.int .i64 0),.val (.int .i64 0),.val (.slice none 0 0),.val (.slice none 0 0),.val (.int .i64 0)],
   .box [.val s.rule,.val (.int .i64 s.minute),.val (.int .i64 s.length),.val (.string s.zone),.val (.int .i64 s.gap),.val (.int .i64 s.fold),.val s.moves,.val (.slice a ds.length cap),.val (.int .i64 (endE (ds.take i)))]]) (fun i _=>i≤ds.length) (fun i=>ds.length-i) 0 ?_ ?_ ?_ ?_
 ·(try simp only[go_sem,↓reduceIte,Qa,Qb])<;>(repeat' (first|rfl|trivial|constructor|(intro h;exact absurd rfl h)))
 ·try simp only[go_sem,Qb,Qe,Qf]
 ·exact Nat.zero_le _
 rintro i env R1 hle hE hi
 (simp only[go_sem] at hE;obtain⟨e13,e12,e11,e5,e4⟩:=hE;simp only[go_sem,↓reduceIte,Qa,Qb,e13,e12,e11,e5,e4];dsimp only at *)
 refine⟨fun hlt=>⟨hlt,?_⟩,fun hge=>?_⟩
 ·have hlt':i<ds.length:=by omega
  obtain⟨ad,ra,rn,rc,had,hR,_⟩:=hf i hlt'
  obtain⟨d,hd⟩:∃d,d=ds[i]:=⟨_,rfl⟩
  rw[←hd] at hR
  have htk:endE (ds.take (i+1))=if d.kind=5 then d.day else endE (ds.take i):=by
   rw[List.take_succ_eq_append_getElem hlt',endE,List.foldl_append,←hd];rfl
  refine vat ad had ?_
  try simp only[go_sem,↓reduceIte]
  refine zaf (d.ed ra rn rc).cells rfl (fun j u hj=>hle _ _ (hR j u hj)) ?_
  simp only[go_sem,↓reduceIte,Qa,Qb,Qe,Qf,Ed.cells,De.ed,e13,e12,e11,e5,e4]
  refine⟨fun hk=>⟨_,W.in64 (by omega),i+1,by omega,⟨rfl,by rw[htk,if_pos hk]⟩,by omega⟩,fun hk=>⟨_,W.in64 (by omega),i+1,by omega,⟨rfl,by rw[htk,if_neg hk]⟩,by omega⟩⟩
 ·obtain rfl:i=ds.length:=by omega
  rw[List.take_length]
  exact⟨⟨hr,hm⟩,rfl⟩
structure On where
 rule:List Nd
 minute:Int
 length:Int
 zone:ByteArray
 deriving DecidableEq
def zbq(day:Int)(o:On)(d:De):On :=
 if day<d.day then o else if d.kind=2 then⟨o.rule,d.minute,d.length,o.zone⟩ else if d.kind=3 then⟨d.rule,o.minute,o.length,o.zone⟩ else if d.kind=4 then⟨o.rule,o.minute,o.length,d.zone⟩ else o
def onE(day:Int)(o:On)(ds:List De):On:=ds.foldl (zbq day) o
theorem RuleV.form{R:RO}{v:Value}{xs:List Nd}(h:RuleV R v xs):∃a n c,v = .slice a n c:=by
 obtain⟨_,⟨_,_,rfl,_⟩,_⟩:=h;exact⟨_,_,_,rfl⟩
theorem RuleV.one{R:RO}{v:Value}{xs:List Nd}(h:RuleV R v xs):v.oneCell'=true:=by
 obtain⟨_,⟨_,_,rfl,_⟩,_⟩:=h;rfl
theorem eOn(s:Se)(rl:List Nd)(ds:List De)(v:Value)(e day:Int)(R:RO)(hr:RuleV R s.rule rl)(h:EdsV R v ds):zaa Tryz.prog 38 [.agg (s.cells++[v,.int .i64 e]).toArray,.int .i64 day] R fun R' u =>
  ∃rv,u = .agg (Se.cells ⟨rv,(onE day ⟨rl,s.minute,s.length,s.zone⟩ ds).minute,(onE day ⟨rl,s.minute,s.length,s.zone⟩ ds).length,(onE day ⟨rl,s.minute,s.length,s.zone⟩ ds).zone,s.gap,s.fold,.slice none 0 0⟩).toArray∧RuleV R' rv (onE day ⟨rl,s.minute,s.length,s.zone⟩ ds).rule:=by
 have hdl:ds.length≤1000000000:=by obtain⟨_,_,_,_,h⟩:=h;exact h
 obtain⟨a,cap,rfl,hc,hf⟩:=h.form
 obtain⟨sr,sm,sl,sz,sg,sf,smv⟩:=s
 obtain⟨ra0,rn0,rc0,e0⟩:=hr.form
 dsimp only at e0 hr
 subst e0
 simp only[Se.cells,List.cons_append,List.nil_append] at *
 refine zac mix Tryz.func38 comp38 (by simp[Tryz.ntmps38]) ?_;simp only[go_sem,↓reduceIte,Qa,Qb,Qd,vc38,rs38]
 refine zaj (Nat×Option Addr×Nat×Nat) (fun p=>[(30,.val (.int .i64 p.1)),(29,.val (.int .i64 ds.length)),(28,.val (.slice a ds.length cap)),(1,.val (.int .i64 day)),(5,.loc 2 0),(4,.loc 1 0)])
  (fun p=>[.dead,.box [.val (.slice none 0 0),.val (.int .i64 0),.val (.int .i64 0),.val (.string ⟨#[]⟩),.val (.int .i64 0),.val (.int .i64 0),.val (.slice none 0 0)],
   .box [.val (.slice p.2.1 p.2.2.1 p.2.2.2),.val (.int .i64 (onE day ⟨rl,sm,sl,sz⟩ (ds.take p.1)).minute),.val (.int .i64 (onE day ⟨rl,sm,sl,sz⟩ (ds.take p.1)).length),.val (.string (onE day ⟨rl,sm,sl,sz⟩ (ds.take p.1)).zone),.val (.int .i64 sg),.val (.int .i64 sf),.val (.slice none 0 0)]])
  (fun p R=>p.1≤ds.length∧RuleV R (.slice p.2.1 p.2.2.1 p.2.2.2) (onE day ⟨rl,sm,sl,sz⟩ (ds.take p.1)).rule) (fun p=>ds.length-p.1) (0,ra0,rn0,rc0) ?_ ?_ ?_ ?_
 ·(try simp only[go_sem,↓reduceIte,Qa,Qb])<;>(repeat' (first|rfl|trivial|constructor|(intro h;exact absurd rfl h)))
 ·try simp only[go_sem,Qb,Qe,Qf]
 ·exact⟨Nat.zero_le _,hr⟩
 rintro⟨i,va,vn,vc⟩ env R1 hle hE ⟨hi,hrv⟩
 (simp only[go_sem] at hE;obtain⟨e30,e29,e28,e1,e5,e4⟩:=hE;simp only[go_sem,↓reduceIte,Qa,Qb,e30,e29,e28,e5];dsimp only at *)
 refine⟨fun hlt=>⟨hlt,?_⟩,fun hge=>?_⟩
 ·have hlt':i<ds.length:=by omega
  obtain⟨ad,ra,rn,rc,had,hR,hdr⟩:=hf i hlt'
  obtain⟨d,hd⟩:∃d,d=ds[i]:=⟨_,rfl⟩
  rw[←hd] at hR hdr
  obtain⟨o,ho⟩:∃o,o=onE day ⟨rl,sm,sl,sz⟩ (ds.take i):=⟨_,rfl⟩
  have htk:onE day ⟨rl,sm,sl,sz⟩ (ds.take (i+1))=zbq day o d:=by
   rw[List.take_succ_eq_append_getElem hlt',onE,List.foldl_append,←hd,ho];rfl
  refine vat ad had ?_
  try simp only[go_sem,↓reduceIte]
  refine zaf (d.ed ra rn rc).cells rfl (fun j u hj=>hle _ _ (hR j u hj)) ?_
  rw[←ho] at hrv ⊢
  simp only[go_sem,↓reduceIte,Qa,Qb,Qd,Qe,Qf,Ed.cells,De.ed,e30,e29,e28,e1,e5,e4]
  refine⟨fun h0=>?_,fun h0=>⟨fun h2=>?_,fun h2=>⟨fun h3=>?_,fun h3=>⟨fun h4=>?_,fun h4=>?_⟩⟩⟩⟩
  ·have hs:zbq day o d=o:=by simp[zbq,h0]
   refine⟨_,W.in64 (by omega),(i+1,va,vn,vc),by dsimp only;omega,?_,by dsimp only;omega,?_⟩
   ·dsimp only;rw[htk,hs];exact⟨rfl,rfl,rfl,rfl,rfl⟩
   ·dsimp only;rw[htk,hs];exact hrv
  ·have hs:zbq day o d=⟨o.rule,d.minute,d.length,o.zone⟩:=by simp[zbq,h0,h2]
   refine⟨_,W.in64 (by omega),(i+1,va,vn,vc),by dsimp only;omega,?_,by dsimp only;omega,?_⟩
   ·dsimp only;rw[htk,hs];exact⟨rfl,rfl,rfl,rfl,rfl⟩
   ·dsimp only;rw[htk,hs];exact hrv
  ·have hs:zbq day o d=⟨d.rule,o.minute,o.length,o.zone⟩:=by simp[zbq,h0,h3]
   refine⟨_,W.in64 (by omega),(i+1,ra,rn,rc),by dsimp only;omega,?_,by dsimp only;omega,?_⟩
   ·dsimp only;rw[htk,hs];exact⟨rfl,rfl,rfl,rfl,rfl⟩
   ·dsimp only;rw[htk,hs];exact hdr.mono hle
  ·have hs:zbq day o d=⟨o.rule,o.minute,o.length,d.zone⟩:=by simp[zbq,h0,h4]
   refine⟨_,W.in64 (by omega),(i+1,va,vn,vc),by dsimp only;omega,?_,by dsimp only;omega,?_⟩
   ·dsimp only;rw[htk,hs];exact⟨rfl,rfl,rfl,rfl,rfl⟩
   ·dsimp only;rw[htk,hs];exact hrv
  ·have hs:zbq day o d=o:=by simp[zbq,h0,h2,h3,h4]
   refine⟨_,W.in64 (by omega),(i+1,va,vn,vc),by dsimp only;omega,?_,by dsimp only;omega,?_⟩
   ·dsimp only;rw[htk,hs];exact⟨rfl,rfl,rfl,rfl,rfl⟩
   ·dsimp only;rw[htk,hs];exact hrv
 ·obtain rfl:i=ds.length:=by omega
  rw[List.take_length] at hrv ⊢
  generalize onE day ⟨rl,sm,sl,sz⟩ ds=o at *
  refine vcall (zli o.rule _ R1 hrv) ?_
  intro R2 u hle2 hu
  obtain⟨ua,un,uc,rfl⟩:=hu.form
  try simp only[go_sem,↓reduceIte,Qa,Qb,Qd,e5,e4]
  exact⟨_,rfl,hu⟩
def idxE(p:De→Bool):Nat→List De→Int
 |_,[] => -1
 |i,d::r=>if p d then i else idxE p (i+1) r
theorem zq4(a:Ed)(b:De)(cb:List Value)(ad:Addr)(R:RO)(ha:∀j u,a.cells[j]?=some u→R (ad.add j) u)(hb:EdV R cb b):zaa Tryz.prog 27 [.agg cb.toArray,.pointer (some ad)] R fun _ r=>r = .bool (overE a (b.ed none 0 0)):=by
 obtain⟨ra,rn,rc,rfl,_⟩:=hb.form
 have hO:=zjW a (b.ed ra rn rc) R
 have e:overE a (b.ed none 0 0)=overE a (b.ed ra rn rc):=rfl
 rw[e]
 simp only[Ed.val,Ed.cells] at *
 refine zac mix Tryz.func27 comp27 (by simp[Tryz.ntmps27]) ?_;simp only[go_sem,↓reduceIte,Qa,vc27,rs27]
 refine zaf _ rfl ha ?_
 try simp only[go_sem,↓reduceIte,Qa,Qb]
 refine vcall hO ?_
 rintro R1 v h1 rfl
 try simp only[go_sem,↓reduceIte]
theorem zgg(g:FuncId)(caps:List Value)(hb:zaB Tryz.prog g=true)(p:De→Bool)(ds:List De)(v:Value)(R:RO)(h:EdsV R v ds)
  (hcl:∀d cs R',RO.le R R'→EdV R' cs d→zaa Tryz.prog g (.agg cs.toArray::caps) R' fun _ r=>r = .bool (p d)):zaa Tryz.prog 26 [v,.func (.func g) #[] caps.toArray] R fun _ r=>r = .int .i64 (idxE p 0 ds):=by
 have hdl:ds.length≤1000000000:=by obtain⟨_,_,_,_,h⟩:=h;exact h
 obtain⟨a,cap,rfl,hc,hf⟩:=h.form
 refine zac mix Tryz.func26 comp26 (by simp[Tryz.ntmps26]) ?_;simp only[go_sem,↓reduceIte,reduceCtorEq,vc26,rs26]
 refine zaj Nat (fun i=>[(8,.val (.int .i64 i)),(7,.val (.int .i64 ds.length)),(0,.val (.slice a ds.length cap)),(1,.val (.func (.func g) #[] caps.toArray))]) (fun _=>[]) (fun i _=>i≤ds.length∧idxE p 0 ds=idxE p i (ds.drop i)) (fun i=>ds.length-i) 0 ?_ rfl ?_ ?_
 ·(try simp only[go_sem,↓reduceIte,Qa,reduceCtorEq])<;>(repeat' (first|rfl|trivial|constructor|(intro h;exact absurd rfl h)))
 ·exact⟨Nat.zero_le _,rfl⟩
 rintro i env R1 hle hE ⟨hi,hp⟩
 (simp only[go_sem] at hE;obtain⟨e8,e7,e0,e1⟩:=hE;simp only[go_sem,↓reduceIte,Qa,reduceCtorEq,e8,e7,e0,e1];dsimp only at *)
 refine⟨fun hlt=>⟨hlt,?_⟩,fun hge=>?_⟩
 ·have hlt':i<ds.length:=by omega
  obtain⟨ad,ra,rn,rc,had,hR,hdr⟩:=hf i hlt'
  obtain⟨d,hd⟩:∃d,d=ds[i]:=⟨_,rfl⟩
  rw[List.drop_eq_getElem_cons hlt'] at hp
  rw[←hd] at hR hdr hp
  have hE:EdV R1 (d.ed ra rn rc).cells d:=⟨ra,rn,rc,rfl,hdr.mono hle⟩
  have hcd:=hcl d _ R1 hle hE
  refine vat ad had ?_
  try simp only[go_sem,↓reduceIte]
  refine zaf (d.ed ra rn rc).cells rfl (fun j u hj=>hle _ _ (hR j u hj)) ?_
  simp only[go_sem,↓reduceIte,Qa]
  refine⟨hb,vcall hcd ?_⟩
  rintro R2 w h2 rfl
  simp only[go_sem,↓reduceIte,Qa,Qf,reduceCtorEq,e8,e7,e0,e1]
  refine⟨fun ht=>?_,fun hn=>⟨_,W.in64 (by omega),i+1,by omega,by constructor,by omega,?_⟩⟩
  ·rw[hp,idxE,if_pos ht]
  ·rw[hp,idxE,if_neg (by simp[hn])]
 ·obtain rfl:i=ds.length:=by omega
  rw[hp,List.drop_length];rfl
theorem zlj(xs ys:List Int)(v u:Value)(R:RO)(h:Ints R v xs)(k:Ints R u ys)(hl:xs.length≤1099511627776):zaa Tryz.prog 168 [v,u] R fun _ r=>r = .bool (decide (xs=ys)):=by
 obtain⟨a,cap,rfl,hc,hf⟩:=h.form
 obtain⟨b,cap',rfl,hc',hf'⟩:=k.form
 refine zac mix Tryz.func168 comp168 (by simp[Tryz.ntmps168]) ?_;simp only[go_sem,↓reduceIte,Qa,reduceCtorEq,vc168,rs168]
 refine⟨fun hne=>?_,fun he=>?_⟩
 ·rw[decide_eq_false];rintro rfl;exact hne rfl
 have he':xs.length=ys.length:=by omega
 refine zaj Nat (fun i=>[(5,.val (.int .i64 i)),(0,.val (.slice a xs.length cap)),(1,.val (.slice b ys.length cap'))]) (fun _=>[]) (fun i _=>i≤xs.length∧xs.take i=ys.take i) (fun i=>xs.length-i) 0 ?_ rfl ?_ ?_
 ·(try simp only[go_sem,↓reduceIte,Qa,reduceCtorEq])<;>(repeat' (first|rfl|trivial|constructor|(intro h;exact absurd rfl h)))
 ·exact⟨Nat.zero_le _,rfl⟩
 rintro i env R1 hle hE ⟨hi,hp⟩
 (simp only[go_sem] at hE;obtain⟨e5,e0,e1⟩:=hE;simp only[go_sem,↓reduceIte,Qa,reduceCtorEq,e5,e0];dsimp only at *)
 refine⟨fun hlt=>⟨hlt,?_⟩,fun hge=>?_⟩
 ·have hlt':i<xs.length:=by omega
  obtain⟨ad,had,hR⟩:=hf i hlt'
  obtain⟨ad',had',hR'⟩:=hf' i (by omega)
  refine vat ad had ?_
  try simp only[go_sem,↓reduceIte]
  refine vload _ (hle _ _ hR) ?_
  simp only[go_sem,↓reduceIte,Qa,e5,e1]
  refine⟨by omega,vat ad' had' ?_⟩
  try simp only[go_sem,↓reduceIte]
  refine vload _ (hle _ _ hR') ?_
  simp only[go_sem,↓reduceIte,Qa,Qf,reduceCtorEq,e5,e0,e1]
  refine⟨fun hne=>?_,fun heq=>?_⟩
  ·rw[decide_eq_false];rintro rfl;exact hne rfl
  ·refine⟨_,W.in64 (by omega),i+1,by omega,by constructor,by omega,?_⟩
   rw[List.take_succ_eq_append_getElem hlt',List.take_succ_eq_append_getElem (by omega:i<ys.length),hp,heq]
 ·obtain rfl:i=xs.length:=by omega
  rw[List.take_length,he',List.take_length] at hp
  simp[hp]
set_option maxRecDepth 8000 in
theorem zgh(xs ys:List Nd)(v u:Value)(R:RO)(h:RuleV R v xs)(k:RuleV R u ys):zaa Tryz.prog 112 [v,u] R fun _ r=>r = .bool (decide (xs=ys)):=by
 obtain⟨cs,h1,h2,h3,h4⟩:=h
 obtain⟨ds,k1,k2,k3,k4⟩:=k
 obtain⟨a,cap,rfl,hc,hf⟩:=SlK.form h1
 obtain⟨b,cap',rfl,hc',hf'⟩:=SlK.form k1
 refine zac mix Tryz.func112 comp112 (by simp[Tryz.ntmps112]) ?_;simp only[go_sem,↓reduceIte,Qa,reduceCtorEq,vc112,rs112]
 refine⟨fun hne=>?_,fun he=>?_⟩
 ·rw[decide_eq_false];rintro rfl;exact hne (by omega)
 have he':xs.length=ys.length:=by omega
 refine zaj Nat (fun i=>[(5,.val (.int .i64 i)),(0,.val (.slice a cs.length cap)),(1,.val (.slice b ds.length cap'))]) (fun _=>[]) (fun i _=>i≤cs.length∧xs.take i=ys.take i) (fun i=>cs.length-i) 0 ?_ rfl ?_ ?_
 ·(try simp only[go_sem,↓reduceIte,Qa,reduceCtorEq])<;>(repeat' (first|rfl|trivial|constructor|(intro h;exact absurd rfl h)))
 ·exact⟨Nat.zero_le _,rfl⟩
 rintro i env R1 hle hE ⟨hi,hp⟩
 (simp only[go_sem] at hE;obtain⟨e5,e0,e1⟩:=hE;simp only[go_sem,↓reduceIte,Qa,reduceCtorEq,e5,e0];dsimp only at *)
 refine⟨fun hlt=>⟨hlt,?_⟩,fun hge=>?_⟩
 ·have hlt':i<cs.length:=by omega
  obtain⟨hl,ad,had,hR⟩:=hf i hlt'
  obtain⟨hl',ad',had',hR'⟩:=hf' i (by omega)
  have hx:=h3 i _ _ (List.getElem?_eq_getElem hlt') (List.getElem?_eq_getElem (by omega))
  have hy:=k3 i _ _ (List.getElem?_eq_getElem (by omega:i<ds.length)) (List.getElem?_eq_getElem (by omega:i<ys.length))
  obtain⟨x,hxe⟩:∃x,x=xs[i]'(by omega):=⟨_,rfl⟩
  obtain⟨y,hye⟩:∃y,y=ys[i]'(by omega):=⟨_,rfl⟩
  rw[←hxe] at hx
  rw[←hye] at hy
  obtain⟨lv,hcx,hI,hIl⟩:=hx
  obtain⟨lu,hcy,hI',hIl'⟩:=hy
  have ho:lv.oneCell'=true:=by obtain⟨_,_,rfl,_⟩:=hI.form;rfl
  have ho':lu.oneCell'=true:=by obtain⟨_,_,rfl,_⟩:=hI'.form;rfl
  rw[hcx] at hR
  rw[hcy] at hR'
  refine vat ad had ?_
  try simp only[go_sem,↓reduceIte]
  refine zaf (x.cells lv) rfl (fun j u hj=>hle _ _ (hR j u hj)) ?_
  simp only[go_sem,↓reduceIte,Qa,Nd.cells,e5,e1]
  refine⟨by omega,vat ad' had' ?_⟩
  try simp only[go_sem,↓reduceIte,Qa,Qb]
  have hne:x≠y→decide (xs=ys)=false:=fun h=>by
   rw[decide_eq_false];rintro rfl;exact h (by rw[hxe,hye])
  have hfin:x.list=y.list→x.kind=y.kind→x.cal=y.cal→x.l=y.l→x.r=y.r→x.n=y.n→x.m=y.m→(x.name != y.name)=false →
    ∃r,W .i64 ((i:Int)+1) r∧∃x',cs.length-x'<cs.length-i∧SV.val (.int .i64 r)=SV.val (.int .i64 (x':Int))∧x'≤cs.length∧List.take x' xs=List.take x' ys:=fun q1 q2 q3 q4 q5 q6 q7 q8=>by
   have q9:x.name=y.name:=zcM (by simpa[bne] using q8)
   have heq:x=y:=by
    obtain⟨_,_,_,_,_,_,_,_⟩:=x
    obtain⟨_,_,_,_,_,_,_,_⟩:=y
    simp only at q1 q2 q3 q4 q5 q6 q7 q9
    subst q1 q2 q3 q4 q5 q6 q7 q9
    rfl
   refine⟨_,W.in64 (by omega),i+1,by omega,rfl,by omega,?_⟩
   rw[List.take_succ_eq_append_getElem (by omega:i<xs.length),List.take_succ_eq_append_getElem (by omega:i<ys.length),hp,←hxe,←hye,heq]
  have hld:∀{b:List Blk} {kv:Value→Prop} {t:Tok kv},kv (.agg (y.cells lu).toArray)→zmD (allR b R1) (ad'.add (i*8)) 8 kv t:=fun hk=>zaf (y.cells lu) rfl (fun j u hj=>hle _ _ (hR' j u hj)) hk
  repeat' (with_reducible first|refine And.intro ?_ ?_|intro _)
  all_goals (try(refine hld ?_;simp only[go_sem,↓reduceIte,Qa,Qb,Nd.cells]))
  all_goals repeat' (with_reducible first|refine And.intro ?_ ?_|intro _)
  all_goals (try(refine hld ?_;simp only[go_sem,↓reduceIte,Qa,Qb,Qc,Qd,Qe,Qf,reduceCtorEq,Nd.cells,e5,e0,e1]))
  all_goals repeat' (with_reducible first|refine And.intro ?_ ?_|intro _)
  all_goals (try(refine hld ?_;simp only[go_sem,↓reduceIte,Qa,Qb,Qc,Qd,Qe,Qf,reduceCtorEq,Nd.cells,e5,e0,e1]))
  all_goals repeat' (with_reducible first|refine And.intro ?_ ?_|intro _)
  all_goals (try first|exact ho|exact ho')
  all_goals (refine vcall (zlj x.list y.list lv lu R1 (hI.mono hle) (hI'.mono hle) (by omega)) ?_;rintro R2 w h6 rfl;generalize hl:decide (x.list=y.list)=l;simp only[go_sem,↓reduceIte,Qa,Qf,reduceCtorEq,e5,e0,e1])
  all_goals
   refine⟨fun g0=>⟨fun g1=>⟨fun g2=>⟨fun g3=>⟨fun g4=>⟨fun g5=>⟨fun g6=>⟨fun g7=>?_,fun g7=>?_⟩,fun g6=>?_⟩,fun g5=>?_⟩,fun g4=>?_⟩,fun g3=>?_⟩,fun g2=>?_⟩,fun g1=>?_⟩,fun g0=>?_⟩
   ·rw[hne (fun e=>by rw[e,bne,zb4] at g7;cases g7)]
   ·exact hfin (of_decide_eq_true (hl.trans g0)) g1 g2 g3 g4 g5 g6 g7
   ·rw[hne (fun e=>g6 (by rw[e]))]
   ·rw[hne (fun e=>g5 (by rw[e]))]
   ·rw[hne (fun e=>g4 (by rw[e]))]
   ·rw[hne (fun e=>g3 (by rw[e]))]
   ·rw[hne (fun e=>g2 (by rw[e]))]
   ·rw[hne (fun e=>g1 (by rw[e]))]
   ·rw[hne (fun e=>of_decide_eq_false (hl.trans g0) (by rw[e]))]
 ·obtain rfl:i=cs.length:=by omega
  rw[h2,List.take_length,he',List.take_length] at hp
  simp[hp]
theorem zpi(x y:De)(cx cy:List Value)(R:RO)(hx:EdV R cx x)(hy:EdV R cy y):zaa Tryz.prog 115 [.agg cx.toArray,.agg cy.toArray] R fun _ r=>r = .bool (decide (x=y)):=by
 obtain⟨a,n,c,e,h⟩:=hx
 obtain⟨a',n',c',e',h'⟩:=hy
 rw[e,e']
 clear e e'
 obtain⟨kind,day,device,seq,mv,minute,length,rule,zone⟩:=x
 obtain⟨kind',day',device',seq',mv',minute',length',rule',zone'⟩:=y
 obtain⟨md,mr,mt,mm,ml⟩:=mv
 obtain⟨md',mr',mt',mm',ml'⟩:=mv'
 simp only[De.ed,Ed.val] at *
 have hb:(zone==zone')=decide (zone=zone'):=by
  by_cases e:zone=zone'
  ·subst e
   simp only[decide_true]
   exact zb4 zone
  ·rw[decide_eq_false e]
   cases hq:(zone==zone') with
   |false=>rfl
   |true=>exact absurd (zcM hq) e
 refine zac mix Tryz.func115 comp115 (by simp[Tryz.ntmps115]) ?_;simp only[go_sem,↓reduceIte,Qa,vc115,rs115]
 refine vcall (zgh rule rule' _ _ R h h') ?_
 clear h h'
 rintro R1 v h1 rfl
 try simp only[go_sem,↓reduceIte,Qa,Qb]
 rw[hb]
 clear hb
 simp only[De.mk.injEq,Mv.mk.injEq]
 repeat' (with_reducible first|refine And.intro ?_ ?_|intro _)
 all_goals simp_all
def EncV{α:Type}(enc:α→List Value)(k:Nat)(R:RO)(v:Value)(xs:List α):Prop:=SlK R v k (xs.map enc)∧xs.length≤1000000000
theorem EncV.mono{α:Type}{enc:α→List Value}{k:Nat}{R R':RO}{v:Value}{xs:List α}(h:EncV enc k R v xs)(hle:RO.le R R'):EncV enc k R' v xs:=⟨h.1.mono hle,h.2⟩
theorem EncV.form{α:Type}{enc:α→List Value}{k:Nat}{R:RO}{v:Value}{xs:List α}(h:EncV enc k R v xs):∃a cap,v = .slice a xs.length cap∧xs.length≤cap∧∀i (hi:i<xs.length),∃ad,a=some ad∧∀j u,(enc xs[i])[j]?=some u→R ((ad.add (i*k)).add j) u:=by
 obtain⟨a,cap,rfl,hc,hf⟩:=SlK.form h.1
 rw[List.length_map] at hc
 refine⟨a,cap,by rw[List.length_map],hc,fun i hi=>?_⟩
 obtain⟨_,ad,ha,hR⟩:=hf i (by rw[List.length_map];exact hi)
 rw[List.getElem_map] at hR
 exact⟨ad,ha,hR⟩
theorem RowIn.enc{α:Type}{enc:α→List Value}{k:Nat}{R:RO}{b cap:Nat}{xs:List α}(hk:∀x,(enc x).length=k)(h0:0<k)(h:RowIn R b (xs.map enc).flatten)(hc:(xs.map enc).flatten.length≤cap*k)(hl:xs.length≤1000000000):EncV enc k R (.slice (some ⟨b,0,none⟩) xs.length cap) xs:=by
 have h1:=RowIn.slK h (fun us hus=>by obtain⟨x,_,rfl⟩:=List.mem_map.1 hus;exact hk x) h0 hc
 rw[List.length_map] at h1
 exact⟨h1,hl⟩
theorem EncV.nil{α:Type}(enc:α→List Value)(k:Nat)(R:RO):EncV enc k R (.slice none 0 0) []:=⟨⟨none,0,rfl,Nat.le_refl _,by simp⟩,by simp⟩
structure Ov where
 device:Int
 seq:Int
 byDevice:Int
 bySeq:Int
 deriving DecidableEq
def Ov.cells(x:Ov):List Value:=[.int .i64 x.device,.int .i64 x.seq,.int .i64 x.byDevice,.int .i64 x.bySeq]
theorem zjY(xs ys:List Mv)(v u:Value)(R:RO)(h:EncV Mv.cells 5 R v xs)(k:EncV Mv.cells 5 R u ys):zaa Tryz.prog 79 [v,u] R fun _ r=>r = .bool (decide (xs=ys)):=by
 have hxl:=h.2
 obtain⟨a,cap,rfl,hc,hf⟩:=h.form
 obtain⟨b,cap',rfl,hc',hf'⟩:=k.form
 refine zac mix Tryz.func79 comp79 (by simp[Tryz.ntmps79]) ?_;simp only[go_sem,↓reduceIte,Qa,reduceCtorEq,vc79,rs79]
 refine⟨fun hne=>?_,fun he=>?_⟩
 ·rw[decide_eq_false];rintro rfl;exact hne (by omega)
 have he':xs.length=ys.length:=by omega
 refine zaj Nat (fun i=>[(5,.val (.int .i64 i)),(0,.val (.slice a xs.length cap)),(1,.val (.slice b ys.length cap'))]) (fun _=>[]) (fun i _=>i≤xs.length∧xs.take i=ys.take i) (fun i=>xs.length-i) 0 ?_ rfl ?_ ?_
 ·(try simp only[go_sem,↓reduceIte,Qa,reduceCtorEq])<;>(repeat' (first|rfl|trivial|constructor|(intro h;exact absurd rfl h)))
 ·exact⟨Nat.zero_le _,rfl⟩
 rintro i env R1 hle hE ⟨hi,hp⟩
 (simp only[go_sem] at hE;obtain⟨e5,e0,e1⟩:=hE;simp only[go_sem,↓reduceIte,Qa,reduceCtorEq,e5,e0];dsimp only at *)
 refine⟨fun hlt=>⟨hlt,?_⟩,fun hge=>?_⟩
 ·have hlt':i<xs.length:=by omega
  obtain⟨ad,had,hR⟩:=hf i hlt'
  obtain⟨ad',had',hR'⟩:=hf' i (by omega)
  obtain⟨x,hxe⟩:∃x,x=xs[i]'(by omega):=⟨_,rfl⟩
  obtain⟨y,hye⟩:∃y,y=ys[i]'(by omega):=⟨_,rfl⟩
  rw[←hxe] at hR
  rw[←hye] at hR'
  refine vat ad had ?_
  try simp only[go_sem,↓reduceIte]
  refine zaf x.cells rfl (fun j u hj=>hle _ _ (hR j u hj)) ?_
  simp only[go_sem,↓reduceIte,Qa,e5,e1]
  refine⟨by omega,vat ad' had' ?_⟩
  try simp only[go_sem,↓reduceIte]
  refine zaf y.cells rfl (fun j u hj=>hle _ _ (hR' j u hj)) ?_
  simp only[go_sem,↓reduceIte,Qa,Qf,reduceCtorEq,Mv.cells,e5,e0,e1]
  have hxy:(x=y)=(x.day=y.day∧(x.drop==y.drop)=true∧x.toDay=y.toDay∧x.minute=y.minute∧x.length=y.length):=by
   obtain⟨_,_,_,_,_⟩:=x
   obtain⟨_,_,_,_,_⟩:=y
   simp
  refine⟨fun hne=>?_,fun heq=>?_⟩
  ·rw[decide_eq_false];rintro rfl
   have:x=y:=by rw[hxe,hye]
   rw[hxy] at this
   simp_all
  ·refine⟨_,W.in64 (by omega),i+1,by omega,by constructor,by omega,?_⟩
   rw[List.take_succ_eq_append_getElem (by omega:i<xs.length),List.take_succ_eq_append_getElem (by omega:i<ys.length),hp,←hxe,←hye,hxy.mpr (by simpa using heq)]
 ·obtain rfl:i=xs.length:=by omega
  rw[List.take_length,he',List.take_length] at hp
  simp[hp]
structure Ti where
 rule:List Nd
 minute:Int
 length:Int
 zone:ByteArray
 gap:Int
 fold:Int
 deriving DecidableEq
def Se.ti(s:Se)(rl:List Nd):Ti:=⟨rl,s.minute,s.length,s.zone,s.gap,s.fold⟩
theorem zjZ(s t:Se)(rl rl':List Nd)(R:RO)(hs:RuleV R s.rule rl)(ht:RuleV R t.rule rl'):zaa Tryz.prog 78 [.agg s.cells.toArray,.agg t.cells.toArray] R fun _ r=>r = .bool (decide (s.ti rl=t.ti rl')):=by
 obtain⟨sr,sm,sl,sz,sg,sf,smv⟩:=s
 obtain⟨tr,tm,tl,tz,tg,tf,tmv⟩:=t
 obtain⟨ra0,rn0,rc0,e0⟩:=hs.form
 obtain⟨ra1,rn1,rc1,e1⟩:=ht.form
 dsimp only at e0 e1 hs ht
 subst e0 e1
 simp only[Se.cells,Se.ti]
 have hb:(sz==tz)=decide (sz=tz):=by
  by_cases e:sz=tz
  ·subst e
   simp only[decide_true]
   exact zb4 sz
  ·rw[decide_eq_false e]
   cases hq:(sz==tz) with
   |false=>rfl
   |true=>exact absurd (zcM hq) e
 refine zac mix Tryz.func78 comp78 (by simp[Tryz.ntmps78]) ?_;simp only[go_sem,↓reduceIte,Qa,vc78,rs78]
 refine vcall (zgh rl rl' _ _ R hs ht) ?_
 clear hs ht
 rintro R1 v h1 rfl
 try simp only[go_sem,↓reduceIte,Qa]
 rw[hb]
 clear hb
 simp only[Ti.mk.injEq]
 repeat' (with_reducible first|refine And.intro ?_ ?_|intro _)
 all_goals simp_all
def zA:ByteArray:=⟨#[97]⟩
def zB:ByteArray:=⟨#[98]⟩
def madeE(e:Ed):De :=
 {kind:=1+e.kind%5
  day:=if 1+e.kind%5=4 then 0 else e.day%10
  device:=e.device%3
  seq:=1+e.seq%8
  mv:=if 1+e.kind%5=1 then(if e.mv.drop then⟨e.day%10,true,0,0,0⟩ else⟨e.day%10,false,e.mv.toDay%10,e.mv.minute%3,1+e.mv.length%3⟩) else⟨0,false,0,0,0⟩
  minute:=if 1+e.kind%5=2 then e.minute%3 else 0
  length:=if 1+e.kind%5=2 then 1+e.length%2 else 0
  rule:=if 1+e.kind%5=3 then ruleN e.minute else[]
  zone:=if 1+e.kind%5=4 then(if e.minute%2=0 then zA else zB) else⟨#[]⟩ }
theorem RuleV.nil(R:RO):RuleV R (.slice none 0 0) []:=⟨[],⟨none,0,rfl,Nat.le_refl _,by simp⟩,rfl,by simp,by simp⟩
theorem zhj(e:Ed)(R:RO):zaa Tryz.prog 20 [e.val] R fun R' v=>∃cs:List Value,v = .agg cs.toArray∧EdV R' cs (madeE e):=by
 simp only[Ed.val]
 refine zac mix Tryz.func20 comp20 (by simp[Tryz.ntmps20]) ?_;simp only[go_sem,↓reduceIte,Qa,vc20,rs20]
 refine vcall (zc1 e.kind 5 (by omega) R) ?_
 rintro R1 v h1 rfl
 try simp only[go_sem,↓reduceIte,Qa]
 refine⟨_,W.in64 (by omega),?_⟩
 try simp only[go_sem,↓reduceIte,Qa,Qb,Qc,Qd,Qe,Qf,reduceCtorEq,Ja,Jb,Jc,Jd,Je,Jf]
 refine vcall (zc1 e.day 10 (by omega) R1) ?_
 rintro R2 v h2 rfl
 try simp only[go_sem,↓reduceIte,Qa]
 refine vcall (zc1 e.device 3 (by omega) R2) ?_
 rintro R3 v h3 rfl
 try simp only[go_sem,↓reduceIte,Qa]
 refine vcall (zc1 e.seq 8 (by omega) R3) ?_
 rintro R4 v h4 rfl
 try simp only[go_sem,↓reduceIte,Qa,Qb,Qd]
 refine⟨_,W.in64 (by omega),?_⟩
 try simp only[go_sem,↓reduceIte,Qa,Qb,Qc,Qd,Qe,Qf,reduceCtorEq,Ja,Jb,Jc,Jd,Je,Jf]
 refine⟨fun k1=>?_,fun k1=>⟨fun k2=>?_,fun k2=>⟨fun k3=>?_,fun k3=>⟨fun k4=>?_,fun k4=>?_⟩⟩⟩⟩
 ·refine⟨fun hd=>?_,fun hd=>?_⟩
  ·refine vcall (zc1 e.mv.toDay 10 (by omega) R4) ?_
   rintro R5 v h5 rfl
   try simp only[go_sem,↓reduceIte,Qa]
   refine vcall (zc1 e.mv.minute 3 (by omega) R5) ?_
   rintro R6 v h6 rfl
   try simp only[go_sem,↓reduceIte,Qa]
   refine vcall (zc1 e.mv.length 3 (by omega) R6) ?_
   rintro R7 v h7 rfl
   try simp only[go_sem,↓reduceIte,Qa,Qb,Qd]
   refine⟨_,W.in64 (by omega),?_⟩
   try simp only[go_sem,↓reduceIte,Qa,Qb,Qc,Qd,Qe,Qf,reduceCtorEq,Ja,Jb,Jc,Jd,Je,Jf]
   exact⟨((madeE e).ed none 0 0).cells,by simp[madeE,De.ed,Ed.cells,k1,hd],none,0,0,rfl,by
    have:(madeE e).rule=[]:=by simp[madeE,k1]
    rw[this];exact RuleV.nil _⟩
  ·exact⟨((madeE e).ed none 0 0).cells,by simp[madeE,De.ed,Ed.cells,k1,hd],none,0,0,rfl,by
    have:(madeE e).rule=[]:=by simp[madeE,k1]
    rw[this];exact RuleV.nil _⟩
 ·refine vcall (zc1 e.minute 3 (by omega) R4) ?_
  rintro R5 v h5 rfl
  try simp only[go_sem,↓reduceIte,Qa,Qb,Qd]
  refine vcall (zc1 e.length 2 (by omega) R5) ?_
  rintro R6 v h6 rfl
  try simp only[go_sem,↓reduceIte,Qa,Qb,Qd]
  refine⟨_,W.in64 (by omega),?_⟩
  try simp only[go_sem,↓reduceIte,Qa,Qb,Qc,Qd,Qe,Qf,reduceCtorEq,Ja,Jb,Jc,Jd,Je,Jf]
  exact⟨((madeE e).ed none 0 0).cells,by simp[madeE,De.ed,Ed.cells,k2],none,0,0,rfl,by
    have:(madeE e).rule=[]:=by simp[madeE,k2]
    rw[this];exact RuleV.nil _⟩
 ·refine vcall (eRule e.minute R4) ?_
  intro R5 v h5 hv
  obtain⟨ra,rn,rc,rfl⟩:=hv.form
  try simp only[go_sem,↓reduceIte,Qa,Qb,Qd]
  exact⟨((madeE e).ed ra rn rc).cells,by simp[madeE,De.ed,Ed.cells,k3],ra,rn,rc,rfl,by
    have:(madeE e).rule=ruleN e.minute:=by simp[madeE,k3]
    rw[this];exact hv⟩
 ·refine vcall (zc1 e.minute 2 (by omega) R4) ?_
  rintro R5 v h5 rfl
  try simp only[go_sem,↓reduceIte,Qa,Qb,Jd]
  have hm:=Int.emod_nonneg e.minute (show(2:Int)≠0 by omega)
  have hm2:=Int.emod_lt_of_pos e.minute (show(0:Int)<2 by omega)
  rcases(by omega:e.minute%2=0∨e.minute%2=1) with hz|hz
  ·rw[hz]
   try simp only[go_sem,↓reduceIte,Qa,Qb,Ja,Jb,Jc]
   refine⟨((madeE e).ed none 0 0).cells,by simp[madeE,De.ed,Ed.cells,k4,hz,zA],none,0,0,rfl,by
    have:(madeE e).rule=[]:=by simp[madeE,k3]
    rw[this];exact RuleV.nil _⟩
  ·rw[hz]
   try simp only[go_sem,↓reduceIte,Qa,Qb,Ja,Jb,Jc]
   refine⟨((madeE e).ed none 0 0).cells,by simp[madeE,De.ed,Ed.cells,k4,hz,zB],none,0,0,rfl,by
    have:(madeE e).rule=[]:=by simp[madeE,k3]
    rw[this];exact RuleV.nil _⟩
 ·exact ⟨((madeE e).ed none 0 0).cells, by simp [madeE, De.ed, Ed.cells, k1, k2, k3, k4], none, 0, 0, rfl, by
    have:(madeE e).rule=[]:=by simp[madeE,k3]
    rw[this];exact RuleV.nil _⟩
def lessD(a b:De):Bool:=decide (a.seq<b.seq∨a.seq=b.seq∧a.device<b.device)
def overD(a b:De):Bool:=overE (a.ed none 0 0) (b.ed none 0 0)
def zak(d:De):Bool:=zbg (d.ed none d.rule.length 0)
def keyEq(a b:De):Bool:=decide (a.device=b.device∧a.seq=b.seq)
def addD(out:List De)(d:De):Option (List De) :=
 if zak d=true then
  match out.find? (keyEq d) with
  |some old=>if old=d then some out else none
  |none=>some (out++[d])
 else none
def distD:List De→List De→Option (List De)
 |out,[]=>some out
 |out,d::r=>match addD out d with
  |some o=>distD o r
  |none=>none
def sortD(l:List De):List De:=l.mergeSort fun a b => !lessD b a
def okD:Option (List De)→Except Int (List De)
 |none => .error 1
 |some o => .ok (sortD o)
def allD(l:List De):Except Int (List De):=if 4096<l.length then .error 2 else okD (distD [] l)
def KeysD(l:List De):Prop:=l.Pairwise fun a b=>keyEq a b=false
def zae(l:List De):Prop:=l.Pairwise fun a b=>lessD a b=true
theorem keyEq_iff(a b:De):keyEq a b=true↔a.device=b.device∧a.seq=b.seq:=by simp[keyEq]
theorem zay(a b:De):keyEq a b=keyEq b a:=by
 unfold keyEq;congr 1;apply propext;constructor<;>rintro⟨h,k⟩<;>exact⟨h.symm,k.symm⟩
theorem zbP(a b:De):lessD a b=true↔a.seq<b.seq∨a.seq=b.seq∧a.device<b.device:=by simp[lessD]
theorem zbH(a b:De):lessD a b=false↔¬ (a.seq<b.seq∨a.seq=b.seq∧a.device<b.device):=by simp[lessD]
theorem zcj(a:De):lessD a a=false:=by rw[zbH];omega
theorem lessD_trans{a b c:De}(h:lessD a b=true)(k:lessD b c=true):lessD a c=true:=by
 rw[zbP] at *;omega
theorem zcN{a b:De}(h:lessD a b=false)(k:lessD b a=false):keyEq a b=true:=by
 rw[zbH] at *;rw[keyEq_iff];omega
theorem zdG{a b:De}(h:lessD a b=true):lessD b a=false:=by
 rw[zbH];rw[zbP] at h;omega
theorem zaE{a b:De}(h:lessD a b=true):keyEq a b=false:=by
 rw[zbP] at h
 cases hk:keyEq a b with
 |false=>rfl
 |true=>rw[keyEq_iff] at hk;omega
theorem zae.ext:∀{a b:List De},zae a→zae b→(∀d,d∈a↔d∈b)→a=b
 |[],[],_,_,_=>rfl
 |[],y::b,_,_,h=>by have:=(h y).2 (by simp);simp at this
 |x::a,[],_,_,h=>by have:=(h x).1 (by simp);simp at this
 |x::a,y::b,ha,hb,h=>by
  have ha':=List.pairwise_cons.1 ha
  have hb':=List.pairwise_cons.1 hb
  have hxy:x=y:=by
   have h1:=(h x).1 (by simp)
   have h2:=(h y).2 (by simp)
   rcases List.mem_cons.1 h1 with e|h1
   ·exact e
   rcases List.mem_cons.1 h2 with e|h2
   ·exact e.symm
   have l1:=hb'.1 x h1
   have l2:=ha'.1 y h2
   rw[zdG l1] at l2;cases l2
  subst hxy
  congr 1
  refine zae.ext ha'.2 hb'.2 fun d=>⟨fun hd=>?_,fun hd=>?_⟩
  ·rcases List.mem_cons.1 ((h d).1 (by simp[hd])) with e|hd'
   ·subst e;have:=ha'.1 d hd;rw[zcj] at this;cases this
   ·exact hd'
  ·rcases List.mem_cons.1 ((h d).2 (by simp[hd])) with e|hd'
   ·subst e;have:=hb'.1 d hd;rw[zcj] at this;cases this
   ·exact hd'
theorem zgi{a b:List De}(h:a.Perm b)(hk:KeysD a):KeysD b:=List.Perm.pairwise h hk fun{x y} hxy=>by rw[zay];exact hxy
theorem zgj{ys:List De}(hk:KeysD ys)(hs:ys.Pairwise fun x y=>lessD y x=false):zae ys:=by
 refine List.Pairwise.imp₂ (fun x y h1 h2=>?_) hk hs
 cases hl:lessD x y with
 |true=>rfl
 |false=>rw[zcN hl h2] at h1;cases h1
theorem zcy(l:List De):(sortD l).Perm l:=List.mergeSort_perm _ _
theorem zc4{l:List De}(hk:KeysD l):zae (sortD l):=by
 refine zgj (zgi (zcy l).symm hk) ?_
 have:=List.pairwise_mergeSort (le:=fun a b:De => !lessD b a) (fun a b c h1 h2=>?_) (fun a b=>?_) l
 ·exact this.imp fun h=>by simpa using h
 ·simp only[Bool.not_eq_true'] at *
  rw[zbH] at *;omega
 ·cases h:lessD b a with
  |false=>simp
  |true=>simp[zdG h]
theorem zjk{l ys:List De}(hk:KeysD l)(hp:ys.Perm l)(hs:ys.Pairwise fun x y=>lessD y x=false):ys=sortD l :=
 zae.ext (zgj (zgi hp.symm hk) hs) (zc4 hk) fun d=>(hp.mem_iff).trans (zcy l).mem_iff.symm
theorem zlk{out o:List De}{d:De}(h:addD out d=some o)(hk:KeysD out):KeysD o:=by
 unfold addD at h
 split at h
 ·split at h
  ·split at h
   ·cases h;exact hk
   ·cases h
  ·rename_i hf
   cases h
   refine List.pairwise_append.2 ⟨hk,by simp,fun x hx y hy=>?_⟩
   simp only[List.mem_cons,List.not_mem_nil,or_false] at hy
   subst hy
   have:=List.find?_eq_none.1 hf x hx
   rw[zay];simpa using this
 ·cases h
theorem zcz:∀{l out o:List De},distD out l=some o→KeysD out→KeysD o
 |[],out,o,h,hk=>by simp only[distD,Option.some.injEq] at h;subst h;exact hk
 |d::r,out,o,h,hk=>by
  unfold distD at h
  split at h
  ·rename_i o' ho'
   exact zcz h (zlk ho' hk)
  ·cases h
theorem zeg:∀(l out:List De) (d:De),distD out (l++[d])=(distD out l).bind fun o=>addD o d
 |[],out,d=>by
  simp only[List.nil_append,distD,Option.bind_some]
  cases addD out d<;>rfl
 |x::l,out,d=>by
  simp only[List.cons_append,distD]
  cases addD out x with
  |none=>rfl
  |some o=>exact zeg l o d
theorem distD_none_append:∀(l out r:List De),distD out l=none→distD out (l++r)=none
 |[],out,r,h=>by simp[distD] at h
 |x::l,out,r,h=>by
  simp only[List.cons_append,distD] at h ⊢
  cases hx:addD out x with
  |none=>rfl
  |some o=>rw[hx] at h;exact distD_none_append l o r h
abbrev Pl:=De×Option Addr×Nat×Nat
def Pl.ed(p:Pl):Ed:=p.1.ed p.2.1 p.2.2.1 p.2.2.2
def PlOK(R:RO)(p:Pl):Prop:=RuleV R (.slice p.2.1 p.2.2.1 p.2.2.2) p.1.rule
theorem PlOK.mono{R R':RO}{p:Pl}(h:PlOK R p)(hle:RO.le R R'):PlOK R' p:=RuleV.mono h hle
theorem PlOK.edV{R:RO}{p:Pl}(h:PlOK R p):EdV R p.ed.cells p.1:=⟨_,_,_,rfl,h⟩
instance:Inhabited Pl:=⟨(⟨0,0,0,0,⟨0,false,0,0,0⟩,0,0,[],⟨#[]⟩⟩,none,0,0)⟩
theorem ze5(e:Ed):∀v∈e.cells,v.oneCell'=true:=by
 intro v hv
 simp only[Ed.cells,List.mem_cons,List.not_mem_nil,or_false] at hv
 rcases hv with rfl|rfl|rfl|rfl|rfl|rfl|rfl|rfl|rfl|rfl|rfl|rfl|rfl<;>rfl
def keyV(d:De):Value := .agg #[.int .i64 d.device,.int .i64 d.seq]
def ents:Nat→List Pl→List MapEntry
 |_,[]=>[]
 |i,q::r=>⟨keyV q.1,q.ed.val,i⟩::ents (i+1) r
theorem zhk:∀(l:List Pl) (i:Nat) (q:Pl),ents i (l++[q])=ents i l++[⟨keyV q.1,q.ed.val,i+l.length⟩]
 |[],i,q=>rfl
 |x::l,i,q=>by
  simp only[List.cons_append,ents,zhk l (i+1) q,List.length_cons]
  rw[show i+1+l.length=i+(l.length+1) by omega]
theorem ze6(a b:De):mEq (some [0,0]) (keyV a) (keyV b)=some (keyEq a b):=by
 simp[mEq,keyV,zad,keyEq]
theorem zgk(d:De):∀(l:List Pl) (c i:Nat),(∀q∈l,keyEq d q.1=false)→mfind (some [0,0]) (keyV d) (ents c l) i=some none
 |[],c,i,_=>rfl
 |q::l,c,i,h=>by
  rw[ents,mfind,ze6,h q (by simp)]
  exact zgk d l (c+1) (i+1) fun q hq=>h q (by simp[hq])
theorem mfind_some(d:De)(q:Pl):∀(l:List Pl) (c i:Nat),l.find? (fun q=>keyEq d q.1)=some q→∃j,mfind (some [0,0]) (keyV d) (ents c l) i=some (some (j,q.ed.val))
 |[],c,i,h=>by simp at h
 |x::l,c,i,h=>by
  rw[ents,mfind,ze6]
  rw[List.find?_cons] at h
  cases hx:keyEq d x.1 with
  |true=>rw[hx] at h;simp only[Option.some.injEq] at h;subst h;exact⟨i,rfl⟩
  |false=>rw[hx] at h;exact mfind_some d q l (c+1) (i+1) h
theorem zll{ds o:List De}{i:Nat}(hi:i<ds.length)(h:distD [] (ds.take i)=some o)(hb:addD o ds[i]=none):distD [] ds=none:=by
 have h1:distD [] (ds.take (i+1))=none:=by
  rw[List.take_succ_eq_append_getElem hi,zeg,h];exact hb
 have:=distD_none_append _ _ (ds.drop (i+1)) h1
 rwa [List.take_append_drop] at this
theorem zj0{ds o:List De}{i:Nat}(hi:i<ds.length)(h:distD [] (ds.take i)=some o):distD [] (ds.take (i+1))=addD o ds[i]:=by
 rw[List.take_succ_eq_append_getElem hi,zeg,h];rfl
theorem zjl(qs:List Pl)(d:De):(qs.map (·.1)).find? (keyEq d)=(qs.find? fun q=>keyEq d q.1).map (·.1):=by
 rw[List.find?_map];rfl
theorem zhl{o:List De}{d:De}(h:zak d=false):addD o d=none:=by unfold addD;simp[h]
theorem zjm{o:List De}{d:De}(h:zak d=true)(k:o.find? (keyEq d)=none):addD o d=some (o++[d]):=by unfold addD;simp[h,k]
theorem zjn{o:List De}{d x:De}(h:zak d=true)(k:o.find? (keyEq d)=some x):addD o d=if x=d then some o else none:=by unfold addD;simp[h,k]
def rowP(ps:List Pl):List Value:=(ps.map fun p=>p.ed.cells).flatten
theorem zaF(ps:List Pl)(q:Pl):rowP (ps++[q])=rowP ps++q.ed.cells:=by simp[rowP]
theorem zeh(ps:List Pl):∀c∈ps.map fun p=>p.ed.cells,c.length=13:=fun c hc=>by
 obtain⟨p,_,rfl⟩:=List.mem_map.1 hc
 rfl
theorem zaH(ps:List Pl):(rowP ps).length=ps.length*13:=by
 unfold rowP
 rw[zag (zeh ps)]
 simp
theorem zjo(ps qs:List Pl):rowP (ps++qs)=rowP ps++rowP qs:=by simp[rowP]
theorem zgl{l:List De}{k:Int}(h:allD l = .error k):k=2∨k=1:=by
 unfold allD at h
 split at h
 ·simp only[Except.error.injEq] at h;exact .inl h.symm
 ·cases hd:distD [] l with
  |none=>rw[hd] at h;simp only[okD,Except.error.injEq] at h;exact .inr h.symm
  |some o=>rw[hd] at h;simp[okD] at h
end Go.Proofs.YtdgndfabdmecmaaGreat
namespace Go.Proofs.YtdgndfabdmecmaaGreat.Vc
set_option linter.unusedSectionVars false
variable [Go.Proofs.YtdgndfabdmecmaaGreat.Vc.Drew]
open Go.RowKit Go.Shelf Go.Sort
theorem zhm{α:Type}[Inhabited α](enc:α→Value)(off:Nat)(d:Array α)(c:Array Value):putCells enc off d c=putCells id off (d.map enc) c:=by
 apply Array.ext_getElem?
 intro k
 simp only[putCells,Array.getElem?_mapIdx,Array.size_map,id_eq]
 cases c[k]? with
 |none=>rfl
 |some x =>
  simp only[Option.map_some]
  split
  ·rename_i h
   have h1:k-off<d.size:=by omega
   rw[getElem!_pos d (k-off) h1,getElem!_pos (d.map enc) (k-off) (by simpa using h1),Array.getElem_map]
  ·rfl
theorem zgm{α:Type}[Inhabited α](enc:α→Value)(w:World)(b off:Nat)(d:Array α):putRow enc w b off d=putRow id w b off (d.map enc):=by
 unfold putRow
 congr 1
 funext c
 exact zhm enc off d c
theorem ze7{cs':List Value}{arr:Array Value}(h:cs'.length≤arr.size):cs' <+: (putCells id 0 cs'.toArray arr).toList:=by
 rw[List.prefix_iff_eq_take]
 apply List.ext_getElem?
 intro i
 rw[List.getElem?_take]
 by_cases hi:i<cs'.length
 ·rw[if_pos hi,Array.getElem?_toList]
  simp[putCells,hi,show i<arr.size by omega]
 ·rw[if_neg hi,List.getElem?_eq_none (by omega)]
theorem zeF{α:Type}[Inhabited α](enc:α→List Value)(k:Nat)(hk:∀x,(enc x).length=k)(d:Array α):flatK enc k d=((d.toList.map enc).flatten).toArray:=by
 have hl:∀us∈d.toList.map enc,us.length=k:=fun us hus=>by
  obtain⟨x,_,rfl⟩:=List.mem_map.1 hus
  exact hk x
 apply Array.ext_getElem?
 intro t
 by_cases ht:t<d.size*k
 ·have h1:t<(flatK enc k d).size:=by rw[size_flatK];exact ht
  have hk0:0<k:=by
   rcases Nat.eq_zero_or_pos k with h|h
   ·subst h;simp at ht
   ·exact h
  have hq:t/k<d.size:=(Nat.div_lt_iff_lt_mul hk0).2 ht
  rw[Array.getElem?_eq_getElem h1,←getElem!_pos (flatK enc k d) t h1,get_flatK _ _ _ t ht,List.getElem?_toArray]
  have h2:=getElem?_flatten hl (t/k) (t%k) (enc d[t/k]) (by simp[hq]) (Nat.mod_lt _ hk0)
  rw[Nat.mul_comm,Nat.div_add_mod] at h2
  rw[h2,getElem!_pos d (t/k) hq]
  have h3:t%k<(enc d[t/k]).length:=by rw[hk];exact Nat.mod_lt _ hk0
  rw[getElem!_pos (enc d[t/k]) (t%k) h3,List.getElem?_eq_getElem h3]
 ·rw[Array.getElem?_eq_none (by rw[size_flatK];omega),List.getElem?_toArray,List.getElem?_eq_none (by rw[zag hl];simp;omega)]
theorem rowS{P:Program}{f:FuncId}{vs:List Value}{n T sz:Nat}{cs:List Value}{R:RO}{Q:List Value→SV→Prop}
  (h:∀(w:World) (β κ:Nat→Nat) (arr:Array Value),w.heap[β 0]?=some (.cells arr T (0,0))→cs <+: arr.toList→κ 0*sz=arr.size→κ 0≤maxLen →
   Calls P f (Value.slice (some ⟨β 0,0,none⟩) n (κ 0)::vs).toArray w fun e w'=>∃r cs' m os,e = .returned (den β κ r)∧SV.ok 1 r=true∧cs'.length=cs.length∧Q cs' r∧w'=grow (putRow id (Sort.ahead w m) (β 0) 0 cs'.toArray) os) :
  zaV P f (.sl 0 n::vs.map .val) [.row T sz cs] R fun R' bs r=>R'=R∧∃cs',bs=[.row T sz cs']∧cs'.length=cs.length∧Q cs' r:=by
 intro w β κ hG
 obtain⟨_,arr,hb,hp,hs,hcl,hm⟩:=hG.blk 0 _ rfl
 have hv:(vs.map SV.val).map (den β κ)=vs:=by
  rw[List.map_map]
  conv=>rhs;rw[←List.map_id vs]
  exact List.map_congr_left fun _ _=>rfl
 simp only[List.map_cons,hv,den]
 refine(h w β κ arr hb hp hs hm).mono ?_
 rintro e w' ⟨r,cs',m,os,rfl,hr,hl,hQ,rfl⟩
 have hlt:β 0<w.heap.size:=(Array.getElem?_eq_some_iff.1 hb).1
 have hb':(grow (putRow id (Sort.ahead w m) (β 0) 0 cs'.toArray) os).heap[β 0]?=some (.cells (putCells id 0 cs'.toArray arr) T (0,0)):=by
  rw[heap_grow_old _ _ (by simpa[putRow,mapBlock,Sort.ahead] using hlt)]
  simp[putRow,mapBlock,Sort.ahead,Array.getElem?_modify,hb,onCells]
 have ho:∀k,k<w.heap.size→k≠β 0→(grow (putRow id (Sort.ahead w m) (β 0) 0 cs'.toArray) os).heap[k]?=w.heap[k]?:=fun k hk hne=>by
  rw[heap_grow_old _ _ (by simpa[putRow,mapBlock,Sort.ahead] using hk)]
  simp[putRow,mapBlock,Sort.ahead,Array.getElem?_modify,Ne.symm hne]
 have harr:cs'.length≤arr.size:=by rw[hl,←hs];exact hcl
 refine⟨β,κ,[.row T sz cs'],r,R,rfl,fun _ _ h=>h,⟨?_,?_,?_⟩,hr,by simp,by simp[Blk.noShr],fun _ _=>⟨rfl,rfl⟩,?_,fun a v h => .inl h,⟨rfl,rfl,rfl,?_,?_,?_⟩,rfl,cs',rfl,hl,hQ⟩
 ·intro j b hj
  cases j with
  |zero =>
   simp only[List.getElem?_cons_zero,Option.some.injEq] at hj
   subst hj
   exact⟨trivial,_,hb',ze7 harr,by rw[hs];simp[putCells],by rw[hl];exact hcl,hm⟩
  |succ j=>simp at hj
 ·intro i j b b' hi hj _ _ _
  have h1:=(List.getElem?_eq_some_iff.1 hi).1
  have h2:=(List.getElem?_eq_some_iff.1 hj).1
  simp only[List.length_cons,List.length_nil] at h1 h2
  omega
 ·intro a v ha
  obtain⟨h1,h2⟩:=hG.ro a v ha
  have h3:=h2 0 _ rfl rfl
  refine⟨?_,?_⟩
  ·rw[World.cell?_of_block (ho a.block (World.block_lt_of_cell? w a h1) h3)]
   exact h1
  ·intro j b hj hb
   cases j with
   |zero=>exact h3
   |succ j=>simp at hj
 ·intro j b hj hb
  cases j with
  |zero=>exact .inr ⟨0,_,rfl,rfl,rfl⟩
  |succ j=>simp at hj
 ·simp[putRow,mapBlock,Sort.ahead]
 ·intro k hk hg
  refine ho k hk fun e=>hg ⟨0,_,rfl,rfl,e⟩
 ·refine Nat.mul_le_mul_left _ ?_
  simp[grow,putRow,mapBlock,Sort.ahead]
variable {P:Program} {ρ:Ren} {α:Type} [Inhabited α]
theorem zei{lt:α→α→Bool}{d:Array α}(h:SortedIn lt 0 d.size d):d.toList.Pairwise fun x y=>lt y x=false:=by
 rw[List.pairwise_iff_getElem]
 intro i j hi hj hij
 have:=h i j (Nat.zero_le _) hij (by simpa using hj)
 rw[getElem!_pos d i (by simpa using hi),getElem!_pos d j (by simpa using hj)] at this
 simpa using this
theorem zij{d d':Array α}(h:PermIn 0 d.size d d'):d'.toList.Perm d.toList:=by
 have h3:=h.2.2
 have e1:d.extract 0 d.size=d:=by simp
 have e2:d'.extract 0 d.size=d':=by rw[←h.1];simp
 rw[e1,e2] at h3
 exact h3
theorem zeG{f:FuncId}{args:List Value}{r:Value}(h:∀w,Calls P f args.toArray w fun e w'=>e = .returned r∧w'=w)(R:RO):zaa P f args R fun _ v=>v=r:=by
 intro w hR
 refine(h w).mono ?_
 rintro e w' ⟨rfl,rfl⟩
 exact⟨_,R,rfl,fun _ _ h=>h,fun a v ha=>⟨hR a v ha,.inl ha⟩,Ext.refl _,rfl⟩
theorem zdH(L:SlLaysF0.n6 P ρ)(fv:Value)(R:RO):zaa P (ρ.f 6) [.slice none 0 0,fv] R fun _ v=>v = .tuple #[] :=
 zeG (fun w=>AnyF.slices_SortFunc_none L none 0 fv w) R
theorem zhn(L:SlLaysM.n5 P ρ)(T:Nat)(xs:List Int)(hl:xs.length<4611686018427387904)(R:RO) :
  zaV P (ρ.f 5) [.sl 0 xs.length] [.row T 1 (xs.map (.int .i64))] R fun R' bs r=>R'=R∧bs=[.row T 1 ((xs.mergeSort fun x y=>decide (x≤y)).map (.int .i64))]∧r = .val (.tuple #[]):=by
 have key:=rowS (P:=P) (f:=ρ.f 5) (vs:=[]) (n:=xs.length) (T:=T) (sz:=1) (cs:=xs.map (.int .i64)) (R:=R)
  (Q:=fun cs' r=>cs'=(xs.mergeSort fun x y=>decide (x≤y)).map (.int .i64)∧r = .val (.tuple #[])) ?_
 ·intro w β κ hG
  refine(key w β κ hG).mono ?_
  rintro e w' ⟨β',κ',bs',r,R',h1,h2,h3,h4,h5,h6,h7,h8,h9,h10,h11,cs',h12,_,h13,h14⟩
  exact⟨β',κ',bs',r,R',h1,h2,h3,h4,h5,h6,h7,h8,h9,h10,h11,by rw[h12,h13],h14⟩
 ·intro w β κ arr hb hp hs hm
  have hlt:β 0<w.heap.size:=(Array.getElem?_eq_some_iff.1 hb).1
  have hH:Holds (Value.int .i64) w (β 0) 0 xs.toArray:=holds_of_blockI hb (by
   rw[List.prefix_iff_eq_take] at hp
   rw[List.length_map] at hp
   exact hp.symm)
  refine(AnyM.slices_Sort_int L (β 0) 0 (κ 0) xs w hH hlt hl).mono ?_
  rintro e w' ⟨rfl,n,os,rfl⟩
  refine⟨.val (.tuple #[]),(xs.mergeSort fun x y=>decide (x≤y)).map (.int .i64),n,os,rfl,rfl,by simp,⟨rfl,rfl⟩,?_⟩
  rw[zgm]
  simp
theorem zho(L:SlLaysN.n43 P ρ)(T:Nat)(xs:List Int)(hl:xs.length≤9223372036854775807)(R:RO) :
  zaV P (ρ.f 43) [.sl 0 xs.length] [.row T 1 (xs.map (.int .i64))] R fun R' bs r=>R'=R∧bs=[.row T 1 ((Lib.compact xs++List.replicate (xs.length-(Lib.compact xs).length) 0).map (.int .i64))]∧r = .sl 0 (Lib.compact xs).length:=by
 have key:=rowS (P:=P) (f:=ρ.f 43) (vs:=[]) (n:=xs.length) (T:=T) (sz:=1) (cs:=xs.map (.int .i64)) (R:=R)
  (Q:=fun cs' r=>cs'=(Lib.compact xs++List.replicate (xs.length-(Lib.compact xs).length) 0).map (.int .i64)∧r = .sl 0 (Lib.compact xs).length) ?_
 ·intro w β κ hG
  refine(key w β κ hG).mono ?_
  rintro e w' ⟨β',κ',bs',r,R',h1,h2,h3,h4,h5,h6,h7,h8,h9,h10,h11,cs',h12,_,h13,h14⟩
  exact⟨β',κ',bs',r,R',h1,h2,h3,h4,h5,h6,h7,h8,h9,h10,h11,by rw[h12,h13],h14⟩
 ·intro w β κ arr hb hp hs hm
  have hH:Holds (Value.int .i64) w (β 0) 0 xs.toArray:=holds_of_blockI hb (by
   rw[List.prefix_iff_eq_take] at hp
   rw[List.length_map] at hp
   exact hp.symm)
  have hcap:xs.length≤κ 0:=by
   have:=hp.length_le
   simp at this
   omega
  have hle:(Lib.compact xs).length≤xs.length:=by
   unfold Lib.compact
   unfold Lib.compactUpTo
   rw[List.length_map]
   refine Nat.le_trans (List.length_filter_le _ _) ?_
   simp
  refine(AnyG.slices_Compact_int L (β 0) 0 (κ 0) xs w hH hl hcap).mono ?_
  rintro e w' ⟨rfl,q,rfl⟩
  refine⟨.sl 0 (Lib.compact xs).length,(Lib.compact xs++List.replicate (xs.length-(Lib.compact xs).length) 0).map (.int .i64),q,#[],rfl,rfl,by simp;omega,⟨rfl,rfl⟩,?_⟩
  rw[zgm,grow_empty]
  simp
end Go.Proofs.YtdgndfabdmecmaaGreat.Vc
namespace Go.Proofs.YtdgndfabdmecmaaGreat.Vc
set_option linter.unusedSectionVars false
variable [Go.Proofs.YtdgndfabdmecmaaGreat.Vc.Drew]
theorem znE{w w':World}(h:@Ext ⟨1⟩ w w'):∃(q:Nat) (os:Array Obj),w'=Go.Sort.grow (w.drewN q) os:=by
 refine⟨w'.drawn-w.drawn,w'.heap.extract w.heap.size w'.heap.size,?_⟩
 obtain⟨heap,tape,drawn,os,output⟩:=w
 obtain⟨heap',tape',drawn',os',output'⟩:=w'
 obtain⟨h1,h2,h3,h4,h5,h6⟩:=h
 simp only at h1 h2 h3 h4 h5 h6
 replace h6:1*drawn≤1*drawn':=h6
 subst h1 h2 h3
 have hd:drawn+(drawn'-drawn)=drawn':=by omega
 have hh:heap++heap'.extract heap.size heap'.size=heap':=by
  apply Array.ext_getElem?
  intro i
  rcases Nat.lt_or_ge i heap.size with hi|hi
  ·rw[Array.getElem?_append_left hi,h5 i hi]
  ·rw[Array.getElem?_append_right hi,Array.getElem?_extract]
   rcases Nat.lt_or_ge i heap'.size with hj|hj
   ·rw[if_pos (by omega)]
    congr 1;omega
   ·rw[if_neg (by omega),Array.getElem?_eq_none hj]
 simp only[Go.Sort.grow,Go.World.drewN,hd,hh]
end Go.Proofs.YtdgndfabdmecmaaGreat.Vc
namespace Go.Proofs.YtdgndfabdmecmaaGreat.Vc
set_option linter.unusedSectionVars false
variable [Go.Proofs.YtdgndfabdmecmaaGreat.Vc.Drew]
open Go.RowKit Go.Shelf Go.Sort
variable {P:Program} {ρ:Ren} {α:Type} [Inhabited α]
theorem ze8(L:SlLaysF0.n6 P ρ)(k:Nat)(aE:∀w,(isAgg (ρ.t 24)).run P w = .ok true w)(zE:∀w,(Go.sizeOf (ρ.t 24)).run P w = .ok k w)(enc:α→List Value)(hk:∀x,(enc x).length=k)(h1:∀x,∀v∈enc x,v.oneCell'=true)(cf:α→α→Int)(hO:SWO (ltOf cf))(g:Nat)(T:Nat)
  (eg:∀args w,(callFunc g args).run P w = .ok (.enter g args) w) (hg:∀x y,@zaa ⟨1⟩ P g [.agg (enc x).toArray,.agg (enc y).toArray] (fun _ _=>False) fun _ v=>v = .int .i64 (cf x y)) (xs:List α) (hl:xs.length<4611686018427387904) (R:RO) :
  zaV P (ρ.f 6) [.sl 0 xs.length,.val (.func (.func g) #[] #[])] [.row T k (xs.map enc).flatten] R fun R' bs r=>R'=R∧∃ys:List α,ys.Perm xs∧(ys.Pairwise fun x y=>ltOf cf y x=false)∧bs=[.row T k (ys.map enc).flatten]∧r = .val (.tuple #[]):=by
 have hfl:∀zs:List α,(zs.map enc).flatten.length=zs.length*k:=fun zs=>by
  rw[zag (k:=k) (fun us hus=>by obtain⟨x,_,rfl⟩:=List.mem_map.1 hus;exact hk x)]
  simp
 have key:=rowS (P:=P) (f:=ρ.f 6) (vs:=[.func (.func g) #[] #[]]) (n:=xs.length) (T:=T) (sz:=k) (cs:=(xs.map enc).flatten) (R:=R)
  (Q:=fun cs' r=>∃ys:List α,ys.Perm xs∧(ys.Pairwise fun x y=>ltOf cf y x=false)∧cs'=(ys.map enc).flatten∧r = .val (.tuple #[])) ?_
 ·intro w β κ hG
  refine(key w β κ hG).mono ?_
  rintro e w' ⟨β',κ',bs',r,R',h1,h2,h3,h4,h5,h6,h7,h8,h9,h10,h11,cs',h12,_,ys,h13,h14,h15,h16⟩
  exact⟨β',κ',bs',r,R',h1,h2,h3,h4,h5,h6,h7,h8,h9,h10,h11,ys,h13,h14,by rw[h12,h15],h16⟩
 ·intro w β κ arr hb hp hs hm
  have hlt:β 0<w.heap.size:=(Array.getElem?_eq_some_iff.1 hb).1
  have hH:HoldsK enc k w (β 0) 0 xs.toArray:=by
   intro j hj
   have hj':j<(xs.map enc).flatten.length:=by rw[hfl];simpa using hj
   have hget:(flatK enc k xs.toArray)[j]! = (xs.map enc).flatten[j]:=by
    rw[zeF enc k hk]
    rw[getElem!_pos _ j (by simpa using hj')]
    simp
   refine⟨?_,by simp[World.frozen?,hb]⟩
   rw[hget]
   simp only[World.cell?,hb,Nat.zero_add,Option.isSome_none,Bool.false_eq_true,if_false]
   rw[←Array.getElem?_toList,id_eq]
   obtain⟨tl,ht⟩:=hp
   rw[←ht,List.getElem?_append_left hj',List.getElem?_eq_getElem hj']
  have hcmp:CmpLays P g #[] enc k cf (β 0) 0 xs.toArray.size w:=by
   intro m os dk _ x y
   refine(hg x y (sortWorldK enc k w (β 0) 0 m dk os) (fun _ _ h=>h.elim)).mono ?_
   rintro e w' ⟨v,R',rfl,_,_,hext,rfl⟩
   exact⟨rfl,znE hext⟩
  have:=AnyQ.slices_SortFunc L k aE zE enc hk h1 cf hO g #[] (β 0) 0 (κ 0) xs.toArray w eg hcmp hH hlt (by simpa using hl)
  simp only[List.size_toArray] at this
  refine this.mono ?_
  rintro e w' ⟨rfl,d',n,os,hperm,hsort,rfl⟩
  have hsz:d'.size=xs.length:=by simpa using hperm.1
  refine⟨.val (.tuple #[]),(d'.toList.map enc).flatten,n,os,rfl,rfl,by rw[hfl,hfl];simp[hsz],⟨d'.toList,?_,?_,rfl,rfl⟩,?_⟩
  ·have:=zij (d:=xs.toArray) (d':=d') hperm
   simpa using this
  ·exact zei (by rw[hsz];exact hsort)
  ·unfold sortWorldK putRowK
   rw[zeF enc k hk]
end Go.Proofs.YtdgndfabdmecmaaGreat.Vc
namespace Go.Proofs.YtdgndfabdmecmaaGreat.Vc
set_option linter.unusedSectionVars false
variable [Go.Proofs.YtdgndfabdmecmaaGreat.Vc.Drew]
section
variable {K:Type} [DecidableEq K] (ks:Option (List Nat)) (kenc:K→Value)
def entOf(x:K×Value×Nat):MapEntry:=⟨kenc x.1,x.2.1,x.2.2⟩
def MapOf(es:List MapEntry)(f:K→Option Value):Prop :=
 ∃l:List (K×Value×Nat),es=l.map (entOf kenc)∧(l.map (·.1)).Nodup∧∀k,f k=(l.find? fun x=>decide (x.1=k)).map (·.2.1)
theorem MapOf.nil:MapOf kenc [] (fun _=>none):=⟨[],rfl,List.nodup_nil,fun _=>rfl⟩
variable (hks:∀a b:K,mEq ks (kenc a) (kenc b)=some (decide (a=b)))
include hks
theorem zej(k:K):∀(l:List (K×Value×Nat)) (i:Nat),∃r,mfind ks (kenc k) (l.map (entOf kenc)) i=some r∧r.map (·.2)=(l.find? fun x=>decide (x.1=k)).map (·.2.1) ∧
  ((r=none∧∀x∈l,x.1≠k)∨∃(j:Nat) (x:K×Value×Nat),r=some (i+j,x.2.1)∧l[j]?=some x∧x.1=k)
 |[],i=>⟨none,rfl,rfl,.inl ⟨rfl,by simp⟩⟩
 |x::l,i=>by
  rw[List.map_cons,mfind]
  simp only[entOf,hks]
  by_cases h:k=x.1
  ·rw[decide_eq_true h]
   exact⟨_,rfl,by simp[h],.inr ⟨0,x,rfl,rfl,h.symm⟩⟩
  ·rw[decide_eq_false h]
   obtain⟨r,h1,h2,h3⟩:=zej k l (i+1)
   refine⟨r,h1,?_,?_⟩
   ·rw[h2,List.find?_cons,decide_eq_false (fun e=>h e.symm)]
   ·rcases h3 with⟨h3,h4⟩|⟨j,y,h3,h4,h5⟩
    ·exact .inl ⟨h3,fun y hy=>by
      rcases List.mem_cons.1 hy with rfl|hy
      ·exact fun e=>h e.symm
      ·exact h4 y hy⟩
    ·exact .inr ⟨j+1,y,by rw[h3];congr 2;omega,by simpa using h4,h5⟩
theorem MapOf.get{es:List MapEntry}{f:K→Option Value}(h:MapOf kenc es f)(k:K):∃r,mfind ks (kenc k) es 0=some r∧r.map (·.2)=f k:=by
 obtain⟨l,rfl,_,hf⟩:=h
 obtain⟨r,h1,h2,_⟩:=zej ks kenc hks k l 0
 exact⟨r,h1,by rw[h2,hf]⟩
theorem MapOf.put{es:List MapEntry}{f:K→Option Value}(h:MapOf kenc es f)(k:K)(v:Value)(clock:Nat):∃r es' clock',mfind ks (kenc k) es 0=some r∧mset (kenc k) v es clock r = .mp es' clock'∧MapOf kenc es' (fun k'=>if k'=k then some v else f k'):=by
 obtain⟨l,rfl,hnd,hf⟩:=h
 obtain⟨r,h1,h2,h3⟩:=zej ks kenc hks k l 0
 refine⟨r,?_⟩
 rcases h3 with⟨rfl,h4⟩|⟨j,x,rfl,h4,h5⟩
 ·refine⟨_,_,h1,rfl,l++[(k,v,clock)],by simp[entOf],?_,fun k'=>?_⟩
  ·rw[List.map_append,List.nodup_append]
   refine⟨hnd,by simp,fun a ha b hb e=>?_⟩
   simp only[List.map_cons,List.map_nil,List.mem_cons,List.not_mem_nil,or_false] at hb
   obtain⟨x,hx,rfl⟩:=List.mem_map.1 ha
   exact h4 x hx (e.trans hb)
  ·show(if k'=k then some v else f k')=_
   rw[List.find?_append,hf]
   by_cases he:k'=k
   ·subst he
    rw[if_pos rfl]
    have:l.find? (fun x=>decide (x.1=k'))=none:=List.find?_eq_none.2 fun x hx=>by simpa using h4 x hx
    rw[this]
    simp
   ·rw[if_neg he]
    cases hq:l.find? (fun x=>decide (x.1=k')) with
    |some y=>rfl
    |none=>simp[Ne.symm he]
 ·subst h5
  have hj:=(List.getElem?_eq_some_iff.1 h4).1
  have hx:l[j]=x:=(List.getElem?_eq_some_iff.1 h4).2
  refine⟨_,_,h1,rfl,l.set j (x.1,v,x.2.2),?_,?_,fun k'=>?_⟩
  ·apply List.ext_getElem?
   intro i
   rw[List.getElem?_modify,List.getElem?_map,List.getElem?_map,List.getElem?_set]
   by_cases hi:0+j=i
   ·have hi':j=i:=by omega
    subst hi'
    subst hx
    simp[hj,entOf]
   ·have hne:¬ j=i:=by omega
    cases l[i]?<;>simp[hne]
  ·have:(l.set j (x.1,v,x.2.2)).map (·.1)=l.map (·.1):=by
    apply List.ext_getElem?
    intro i
    rw[List.getElem?_map,List.getElem?_map,List.getElem?_set]
    by_cases hi:j=i
    ·subst hi;subst hx;simp[hj]
    ·rw[if_neg hi]
   rw[this];exact hnd
  ·show(if k'=x.1 then some v else f k')=_
   rw[hf]
   -- the list around j
   have hsplit:l=l.take j++x::l.drop (j+1):=by
    rw[←hx,←List.drop_eq_getElem_cons hj,List.take_append_drop]
   have hset:l.set j (x.1,v,x.2.2)=l.take j++(x.1,v,x.2.2)::l.drop (j+1):=List.set_eq_take_append_cons_drop.trans (by rw[if_pos hj])
   have hpre:∀y∈l.take j,y.1≠x.1:=by
    intro y hy e
    rw[hsplit,List.map_append,List.nodup_append] at hnd
    exact hnd.2.2 y.1 (List.mem_map_of_mem (f:=(·.1)) hy) x.1 (by simp) e
   by_cases he:k'=x.1
   ·subst he
    rw[if_pos rfl,hset,List.find?_append]
    have:(l.take j).find? (fun y=>decide (y.1=x.1))=none:=List.find?_eq_none.2 fun y hy=>by simpa using hpre y hy
    rw[this]
    simp
   ·rw[if_neg he,hset]
    conv=>lhs;rw[hsplit]
    rw[List.find?_append,List.find?_append,List.find?_cons,List.find?_cons,decide_eq_false (fun e=>he e.symm)]
end
theorem zgO(a b:Int):mEq none (.int .i64 a) (.int .i64 b)=some (decide (a=b)):=by
 by_cases h:a=b<;>simp[mEq,h]
end Go.Proofs.YtdgndfabdmecmaaGreat.Vc
namespace Go.Proofs.YtdgndfabdmecmaaGreat
def Inc(l:List Int):Prop:=l.Pairwise (· < ·)
theorem Inc.ext:∀{a b:List Int},Inc a→Inc b→(∀x,x∈a↔x∈b)→a=b
 |[],[],_,_,_=>rfl
 |[],y::ys,_,_,h=>absurd ((h y).2 (by simp)) (by simp)
 |x::xs,[],_,_,h=>absurd ((h x).1 (by simp)) (by simp)
 |x::xs,y::ys,ha,hb,h=>by
  have ha':=List.pairwise_cons.1 ha
  have hb':=List.pairwise_cons.1 hb
  have hxy:x=y:=by
   rcases Int.lt_trichotomy x y with hlt|he|hlt
   ·rcases List.mem_cons.1 ((h x).1 (by simp)) with e|m
    ·exact e
    ·have:=hb'.1 x m;omega
   ·exact he
   ·rcases List.mem_cons.1 ((h y).2 (by simp)) with e|m
    ·exact e.symm
    ·have:=ha'.1 y m;omega
  subst hxy
  congr 1
  refine Inc.ext ha'.2 hb'.2 fun z=>⟨fun hz=>?_,fun hz=>?_⟩
  ·have hlt:=ha'.1 z hz
   rcases List.mem_cons.1 ((h z).1 (by simp[hz])) with e|m
   ·omega
   ·exact m
  ·have hlt:=hb'.1 z hz
   rcases List.mem_cons.1 ((h z).2 (by simp[hz])) with e|m
   ·omega
   ·exact m
def ins(x:Int):List Int→List Int
 |[]=>[x]
 |y::ys=>if x<y then x::y::ys else if x=y then y::ys else y::ins x ys
theorem zik{x z:Int}:∀{l:List Int},z∈ins x l↔z=x∨z∈l
 |[]=>by simp[ins]
 |y::ys=>by
  unfold ins
  split
  ·simp
  ·split
   ·rename_i h;subst h;simp
   ·simp only[List.mem_cons,zik (l:=ys)]
    constructor
    ·rintro(h|h|h)<;>simp[h]
    ·rintro(h|h|h)<;>simp[h]
theorem zlm{x:Int}:∀{l:List Int},Inc l→Inc (ins x l)
 |[],_=>by simp[ins,Inc]
 |y::ys,h=>by
  have h':=List.pairwise_cons.1 h
  unfold ins
  split
  ·rename_i hlt
   exact List.pairwise_cons.2 ⟨fun z hz=>by rcases List.mem_cons.1 hz with e|m;omega;have:=h'.1 z m;omega,h⟩
  ·split
   ·exact h
   ·refine List.pairwise_cons.2 ⟨fun z hz=>?_,zlm h'.2⟩
    rcases zik.1 hz with e|m
    ·omega
    ·exact h'.1 z m
def rising:List Int→List Int
 |[]=>[]
 |x::xs=>ins x (rising xs)
theorem zba:∀l:List Int,Inc (rising l)
 |[]=>List.Pairwise.nil
 |_::xs=>zlm (zba xs)
theorem zaJ{z:Int}:∀{l:List Int},z∈rising l↔z∈l
 |[]=>by simp[rising]
 |x::xs=>by simp[rising,zik,zaJ (l:=xs)]
theorem zln{l r:List Int}(h:Inc r)(hm:∀x,x∈r↔x∈l):r=rising l:=Inc.ext h (zba l) fun x=>(hm x).trans zaJ.symm
theorem Inc.nodup{l:List Int}(h:Inc l):l.Nodup:=List.Pairwise.imp (fun hlt=>by omega) h
theorem zc5{α:Type}[DecidableEq α]:∀{a b:List α},a.Nodup→(∀x∈a,x∈b)→a.length≤b.length
 |[],b,_,_=>by simp
 |x::xs,b,h,hm=>by
  have h':=List.nodup_cons.1 h
  have hx:=hm x (by simp)
  have:=zc5 (a:=xs) (b:=b.erase x) h'.2 fun y hy=>by
   have hne:y≠x:=fun e=>h'.1 (e▸hy)
   exact(List.mem_erase_of_ne hne).2 (hm y (by simp[hy]))
  rw[List.length_erase_of_mem hx] at this
  have:=List.length_pos_of_mem hx
  simp only[List.length_cons]
  omega
theorem zgn(l:List Int):(rising l).length≤l.length:=zc5 (zba l).nodup fun x hx=>zaJ.1 hx
/-! ### slices.Compact of a sorted list -/
theorem ze9(d:Array Int)(hs:∀i j,i≤j→j<d.size→d[i]! ≤ d[j]!):∀m,m≤d.size→Inc (Lib.compactUpTo d m)∧(∀x,x∈Lib.compactUpTo d m↔∃j,j<m∧d[j]! = x)
 |0,_=>by simp[Lib.compactUpTo,Inc]
 |m+1,hm=>by
  obtain⟨h1,h2⟩:=ze9 d hs m (by omega)
  rw[Lib.compactUpTo_succ]
  by_cases hk:Lib.keeps d m=true
  ·rw[if_pos hk]
   refine⟨List.pairwise_append.2 ⟨h1,List.pairwise_singleton _ _,fun a ha b hb=>?_⟩,fun x=>?_⟩
   ·obtain⟨j,hj,rfl⟩:=(h2 a).1 ha
    rw[List.mem_singleton.1 hb]
    have h3:=hs j (m-1) (by omega) (by omega)
    have h4:=hs (m-1) m (by omega) (by omega)
    simp only[Lib.keeps,decide_eq_true_eq] at hk
    rcases hk with h0|hne
    ·omega
    ·have:d[m]! ≠ d[m-1]! := hne
     omega
   ·rw[List.mem_append,h2,List.mem_singleton]
    constructor
    ·rintro(⟨j,hj,e⟩|rfl)
     ·exact⟨j,by omega,e⟩
     ·exact⟨m,by omega,rfl⟩
    ·rintro⟨j,hj,e⟩
     by_cases hjm:j=m
     ·subst hjm;exact .inr e.symm
     ·exact .inl ⟨j,by omega,e⟩
  ·rw[if_neg hk,List.append_nil]
   refine⟨h1,fun x=>?_⟩
   rw[h2]
   simp only[Lib.keeps,decide_eq_true_eq,not_or] at hk
   have he:d[m]! = d[m-1]! := Classical.not_not.1 hk.2
   constructor
   ·rintro⟨j,hj,e⟩;exact⟨j,by omega,e⟩
   ·rintro⟨j,hj,e⟩
    by_cases hjm:j=m
    ·subst hjm;exact⟨j-1,by omega,by rw[←he];exact e⟩
    ·exact⟨j,by omega,e⟩
theorem zf5(xs:List Int):Lib.compactUpTo (xs.mergeSort fun x y=>decide (x≤y)).toArray (xs.mergeSort fun x y=>decide (x≤y)).toArray.size=rising xs:=by
 have hp:(xs.mergeSort fun x y=>decide (x≤y)).Pairwise (· ≤ ·):=by
  have:=List.pairwise_mergeSort (le:=fun x y:Int=>decide (x≤y)) (fun a b c h1 h2=>by simp at *;omega) (fun a b=>by simp;omega) xs
  simpa using this
 have hm:∀x,x∈(xs.mergeSort fun x y=>decide (x≤y))↔x∈xs:=fun x=>List.mem_mergeSort
 generalize (xs.mergeSort fun x y=>decide (x≤y))=ys at hp hm
 obtain⟨h1,h2⟩:=ze9 ys.toArray (fun i j hij hj=>by
  have hj':j<ys.length:=by simpa using hj
  rcases Nat.lt_or_eq_of_le hij with h|rfl
  ·have:=List.pairwise_iff_getElem.1 hp i j (by omega) hj' h
   simpa[getElem!_pos,hj',show i<ys.length by omega] using this
  ·omega) ys.toArray.size (Nat.le_refl _)
 refine zln h1 fun x=>?_
 rw[h2,←hm]
 constructor
 ·rintro⟨j,hj,rfl⟩
  have hj':j<ys.length:=by simpa using hj
  simp[getElem!_pos,hj']
 ·intro hx
  obtain⟨j,hj,rfl⟩:=List.getElem_of_mem hx
  exact⟨j,by simpa using hj,by simp[getElem!_pos,hj]⟩
theorem Inc.get_lt{l:List Int}(h:Inc l){i j:Nat}(hij:i<j)(hj:j<l.length):l[i]<l[j]:=List.pairwise_iff_getElem.1 h i j (by omega) hj hij
end Go.Proofs.YtdgndfabdmecmaaGreat
namespace Go.Proofs.YtdgndfabdmecmaaGreat
set_option linter.unusedSectionVars false
variable [Go.Proofs.YtdgndfabdmecmaaGreat.Vc.Drew]
open Go.Proofs.YtdgndfabdmecmaaGreat.Vc Go.Shelf Go.Sort
def Tryz.sortEd_ren:Go.Shelf.Ren:=⟨fun|6=>58|15=>96|14=>95|28=>129|29=>130|20=>121|21=>122|22=>123|23=>124|24=>125|25=>126|26=>127|27=>128|46=>172|47=>173|48=>174|49=>175|50=>176|57=>193|n=>n,fun|22=>22|24=>52|25=>125|3=>3|39=>175|0=>0|53=>210|55=>212|4=>4|46=>204|45=>203|50=>156|5=>5|9=>9|66=>236|70=>240|76=>258|77=>253|n=>n,fun|n=>n⟩
theorem Tryz.sortEd:Go.Proofs.SlLaysF0.n6 Tryz.prog Tryz.sortEd_ren:={
 mixed:=by kernel_rfl
 f6:=⟨Tryz.f58.name,by decide,Tryz.func58.trans (congrArg some (by kernel_rfl))⟩
 f14:=⟨Tryz.f95.name,by decide,Tryz.func95.trans (congrArg some (by kernel_rfl))⟩
 f15:=Tryz.func96.trans (congrArg some (by kernel_rfl))
 f20:=⟨Tryz.f121.name,by decide,Tryz.func121.trans (congrArg some (by kernel_rfl))⟩
 f21:=⟨Tryz.f122.name,by decide,Tryz.func122.trans (congrArg some (by kernel_rfl))⟩
 f22:=⟨Tryz.f123.name,by decide,Tryz.func123.trans (congrArg some (by kernel_rfl))⟩
 f23:=⟨Tryz.f124.name,by decide,Tryz.func124.trans (congrArg some (by kernel_rfl))⟩
 f24:=⟨Tryz.f125.name,by decide,Tryz.func125.trans (congrArg some (by kernel_rfl))⟩
 f25:=⟨Tryz.f126.name,by decide,Tryz.func126.trans (congrArg some (by kernel_rfl))⟩
 f26:=⟨Tryz.f127.name,by decide,Tryz.func127.trans (congrArg some (by kernel_rfl))⟩
 f27:=⟨Tryz.f128.name,by decide,Tryz.func128.trans (congrArg some (by kernel_rfl))⟩
 f28:=Tryz.func129.trans (congrArg some (by kernel_rfl))
 f29:=Tryz.func130.trans (congrArg some (by kernel_rfl))
 f46:=⟨Tryz.f172.name,by decide,Tryz.func172.trans (congrArg some (by kernel_rfl))⟩
 f47:=Tryz.func173.trans (congrArg some (by kernel_rfl))
 f48:=Tryz.func174.trans (congrArg some (by kernel_rfl))
 f49:=⟨Tryz.f175.name,by decide,Tryz.func175.trans (congrArg some (by kernel_rfl))⟩
 f50:=⟨Tryz.f176.name,by decide,Tryz.func176.trans (congrArg some (by kernel_rfl))⟩
 f57:=⟨Tryz.f193.name,by decide,Tryz.func193.trans (congrArg some (by kernel_rfl))⟩
 t0:=Tryz.underlying0
 a0:=Tryz.isAgg0
 z0:=Tryz.sizeOf0
 v0:=Tryz.zeroValue0
 t3:=Tryz.underlying3
 a3:=Tryz.isAgg3
 z3:=Tryz.sizeOf3
 v3:=Tryz.zeroValue3
 t4:=Tryz.underlying4
 a4:=Tryz.isAgg4
 z4:=Tryz.sizeOf4
 v4:=Tryz.zeroValue4
 t5:=Tryz.underlying5
 a5:=Tryz.isAgg5
 z5:=Tryz.sizeOf5
 v5:=Tryz.zeroValue5
 t9:=Tryz.underlying9
 a9:=Tryz.isAgg9
 z9:=Tryz.sizeOf9
 v9:=Tryz.zeroValue9
 t22:=Tryz.underlying22
 a22:=Tryz.isAgg22
 z22:=Tryz.sizeOf22
 v22:=Tryz.zeroValue22
 t25:=Tryz.underlying125
 a25:=Tryz.isAgg125
 z25:=Tryz.sizeOf125
 v25:=Tryz.zeroValue125
 t39:=Tryz.underlying175
 a39:=Tryz.isAgg175
 z39:=Tryz.sizeOf175
 v39:=Tryz.zeroValue175
 t45:=Tryz.underlying203
 a45:=Tryz.isAgg203
 z45:=Tryz.sizeOf203
 v45:=Tryz.zeroValue203
 t46:=Tryz.underlying204
 a46:=Tryz.isAgg204
 z46:=Tryz.sizeOf204
 v46:=Tryz.zeroValue204
 t50:=Tryz.underlying156
 a50:=Tryz.isAgg156
 z50:=Tryz.sizeOf156
 v50:=Tryz.zeroValue156
 t53:=Tryz.underlying210
 a53:=Tryz.isAgg210
 z53:=Tryz.sizeOf210
 v53:=Tryz.zeroValue210
 t55:=Tryz.underlying212
 a55:=Tryz.isAgg212
 z55:=Tryz.sizeOf212
 v55:=Tryz.zeroValue212
 t66:=Tryz.underlying236
 a66:=Tryz.isAgg236
 z66:=Tryz.sizeOf236
 v66:=Tryz.zeroValue236
 t70:=Tryz.underlying240
 a70:=Tryz.isAgg240
 z70:=Tryz.sizeOf240
 v70:=Tryz.zeroValue240
 t76:=Tryz.underlying258
 a76:=Tryz.isAgg258
 z76:=Tryz.sizeOf258
 v76:=Tryz.zeroValue258
 t77:=Tryz.underlying253
 a77:=Tryz.isAgg253
 z77:=Tryz.sizeOf253
 v77:=Tryz.zeroValue253 }
def Tryz.sortMv_ren:Go.Shelf.Ren:=⟨fun|6=>67|15=>96|14=>100|28=>129|29=>130|20=>140|21=>141|22=>142|23=>143|24=>144|25=>145|26=>146|27=>147|46=>180|47=>173|48=>174|49=>181|50=>182|57=>195|n=>n,fun|22=>32|24=>50|25=>150|3=>3|39=>175|0=>0|53=>210|55=>212|4=>4|46=>204|45=>203|50=>156|5=>5|9=>9|66=>236|70=>240|76=>258|77=>253|n=>n,fun|n=>n⟩
theorem Tryz.sortMv:Go.Proofs.SlLaysF0.n6 Tryz.prog Tryz.sortMv_ren:={
 mixed:=by kernel_rfl
 f6:=⟨Tryz.f67.name,by decide,Tryz.func67.trans (congrArg some (by kernel_rfl))⟩
 f14:=⟨Tryz.f100.name,by decide,Tryz.func100.trans (congrArg some (by kernel_rfl))⟩
 f15:=Tryz.func96.trans (congrArg some (by kernel_rfl))
 f20:=⟨Tryz.f140.name,by decide,Tryz.func140.trans (congrArg some (by kernel_rfl))⟩
 f21:=⟨Tryz.f141.name,by decide,Tryz.func141.trans (congrArg some (by kernel_rfl))⟩
 f22:=⟨Tryz.f142.name,by decide,Tryz.func142.trans (congrArg some (by kernel_rfl))⟩
 f23:=⟨Tryz.f143.name,by decide,Tryz.func143.trans (congrArg some (by kernel_rfl))⟩
 f24:=⟨Tryz.f144.name,by decide,Tryz.func144.trans (congrArg some (by kernel_rfl))⟩
 f25:=⟨Tryz.f145.name,by decide,Tryz.func145.trans (congrArg some (by kernel_rfl))⟩
 f26:=⟨Tryz.f146.name,by decide,Tryz.func146.trans (congrArg some (by kernel_rfl))⟩
 f27:=⟨Tryz.f147.name,by decide,Tryz.func147.trans (congrArg some (by kernel_rfl))⟩
 f28:=Tryz.func129.trans (congrArg some (by kernel_rfl))
 f29:=Tryz.func130.trans (congrArg some (by kernel_rfl))
 f46:=⟨Tryz.f180.name,by decide,Tryz.func180.trans (congrArg some (by kernel_rfl))⟩
 f47:=Tryz.func173.trans (congrArg some (by kernel_rfl))
 f48:=Tryz.func174.trans (congrArg some (by kernel_rfl))
 f49:=⟨Tryz.f181.name,by decide,Tryz.func181.trans (congrArg some (by kernel_rfl))⟩
 f50:=⟨Tryz.f182.name,by decide,Tryz.func182.trans (congrArg some (by kernel_rfl))⟩
 f57:=⟨Tryz.f195.name,by decide,Tryz.func195.trans (congrArg some (by kernel_rfl))⟩
 t0:=Tryz.underlying0
 a0:=Tryz.isAgg0
 z0:=Tryz.sizeOf0
 v0:=Tryz.zeroValue0
 t3:=Tryz.underlying3
 a3:=Tryz.isAgg3
 z3:=Tryz.sizeOf3
 v3:=Tryz.zeroValue3
 t4:=Tryz.underlying4
 a4:=Tryz.isAgg4
 z4:=Tryz.sizeOf4
 v4:=Tryz.zeroValue4
 t5:=Tryz.underlying5
 a5:=Tryz.isAgg5
 z5:=Tryz.sizeOf5
 v5:=Tryz.zeroValue5
 t9:=Tryz.underlying9
 a9:=Tryz.isAgg9
 z9:=Tryz.sizeOf9
 v9:=Tryz.zeroValue9
 t22:=Tryz.underlying32
 a22:=Tryz.isAgg32
 z22:=Tryz.sizeOf32
 v22:=Tryz.zeroValue32
 t25:=Tryz.underlying150
 a25:=Tryz.isAgg150
 z25:=Tryz.sizeOf150
 v25:=Tryz.zeroValue150
 t39:=Tryz.underlying175
 a39:=Tryz.isAgg175
 z39:=Tryz.sizeOf175
 v39:=Tryz.zeroValue175
 t45:=Tryz.underlying203
 a45:=Tryz.isAgg203
 z45:=Tryz.sizeOf203
 v45:=Tryz.zeroValue203
 t46:=Tryz.underlying204
 a46:=Tryz.isAgg204
 z46:=Tryz.sizeOf204
 v46:=Tryz.zeroValue204
 t50:=Tryz.underlying156
 a50:=Tryz.isAgg156
 z50:=Tryz.sizeOf156
 v50:=Tryz.zeroValue156
 t53:=Tryz.underlying210
 a53:=Tryz.isAgg210
 z53:=Tryz.sizeOf210
 v53:=Tryz.zeroValue210
 t55:=Tryz.underlying212
 a55:=Tryz.isAgg212
 z55:=Tryz.sizeOf212
 v55:=Tryz.zeroValue212
 t66:=Tryz.underlying236
 a66:=Tryz.isAgg236
 z66:=Tryz.sizeOf236
 v66:=Tryz.zeroValue236
 t70:=Tryz.underlying240
 a70:=Tryz.isAgg240
 z70:=Tryz.sizeOf240
 v70:=Tryz.zeroValue240
 t76:=Tryz.underlying258
 a76:=Tryz.isAgg258
 z76:=Tryz.sizeOf258
 v76:=Tryz.zeroValue258
 t77:=Tryz.underlying253
 a77:=Tryz.isAgg253
 z77:=Tryz.sizeOf253
 v77:=Tryz.zeroValue253 }
def Tryz.sortA_ren:Go.Shelf.Ren:=⟨fun|5=>61|8=>96|7=>97|19=>129|20=>130|10=>131|11=>132|12=>133|13=>134|14=>135|15=>136|16=>137|17=>138|18=>139|30=>177|31=>173|32=>174|33=>178|34=>179|35=>101|40=>194|n=>n,fun|23=>36|25=>3|3=>3|32=>175|22=>36|0=>0|44=>210|46=>212|4=>4|36=>204|35=>203|41=>156|5=>5|9=>9|53=>236|57=>240|63=>258|64=>253|n=>n,fun|n=>n⟩
theorem Tryz.sortA:Go.Proofs.SlLaysM.n5 Tryz.prog Tryz.sortA_ren:={
 mixed:=by kernel_rfl
 f5:=⟨Tryz.f61.name,by decide,Tryz.func61.trans (congrArg some (by kernel_rfl))⟩
 f7:=⟨Tryz.f97.name,by decide,Tryz.func97.trans (congrArg some (by kernel_rfl))⟩
 f8:=Tryz.func96.trans (congrArg some (by kernel_rfl))
 f10:=⟨Tryz.f131.name,by decide,Tryz.func131.trans (congrArg some (by kernel_rfl))⟩
 f11:=⟨Tryz.f132.name,by decide,Tryz.func132.trans (congrArg some (by kernel_rfl))⟩
 f12:=⟨Tryz.f133.name,by decide,Tryz.func133.trans (congrArg some (by kernel_rfl))⟩
 f13:=⟨Tryz.f134.name,by decide,Tryz.func134.trans (congrArg some (by kernel_rfl))⟩
 f14:=⟨Tryz.f135.name,by decide,Tryz.func135.trans (congrArg some (by kernel_rfl))⟩
 f15:=⟨Tryz.f136.name,by decide,Tryz.func136.trans (congrArg some (by kernel_rfl))⟩
 f16:=⟨Tryz.f137.name,by decide,Tryz.func137.trans (congrArg some (by kernel_rfl))⟩
 f17:=⟨Tryz.f138.name,by decide,Tryz.func138.trans (congrArg some (by kernel_rfl))⟩
 f18:=⟨Tryz.f139.name,by decide,Tryz.func139.trans (congrArg some (by kernel_rfl))⟩
 f19:=Tryz.func129.trans (congrArg some (by kernel_rfl))
 f20:=Tryz.func130.trans (congrArg some (by kernel_rfl))
 f30:=⟨Tryz.f177.name,by decide,Tryz.func177.trans (congrArg some (by kernel_rfl))⟩
 f31:=Tryz.func173.trans (congrArg some (by kernel_rfl))
 f32:=Tryz.func174.trans (congrArg some (by kernel_rfl))
 f33:=⟨Tryz.f178.name,by decide,Tryz.func178.trans (congrArg some (by kernel_rfl))⟩
 f34:=⟨Tryz.f179.name,by decide,Tryz.func179.trans (congrArg some (by kernel_rfl))⟩
 f35:=⟨Tryz.f101.name,by decide,Tryz.func101.trans (congrArg some (by kernel_rfl))⟩
 f40:=⟨Tryz.f194.name,by decide,Tryz.func194.trans (congrArg some (by kernel_rfl))⟩
 t0:=Tryz.underlying0
 a0:=Tryz.isAgg0
 z0:=Tryz.sizeOf0
 v0:=Tryz.zeroValue0
 t3:=Tryz.underlying3
 a3:=Tryz.isAgg3
 z3:=Tryz.sizeOf3
 v3:=Tryz.zeroValue3
 t4:=Tryz.underlying4
 a4:=Tryz.isAgg4
 z4:=Tryz.sizeOf4
 v4:=Tryz.zeroValue4
 t5:=Tryz.underlying5
 a5:=Tryz.isAgg5
 z5:=Tryz.sizeOf5
 v5:=Tryz.zeroValue5
 t9:=Tryz.underlying9
 a9:=Tryz.isAgg9
 z9:=Tryz.sizeOf9
 v9:=Tryz.zeroValue9
 t22:=Tryz.underlying36
 a22:=Tryz.isAgg36
 z22:=Tryz.sizeOf36
 v22:=Tryz.zeroValue36
 t23:=Tryz.underlying36
 a23:=Tryz.isAgg36
 z23:=Tryz.sizeOf36
 v23:=Tryz.zeroValue36
 t25:=Tryz.underlying3
 a25:=Tryz.isAgg3
 z25:=Tryz.sizeOf3
 v25:=Tryz.zeroValue3
 t32:=Tryz.underlying175
 a32:=Tryz.isAgg175
 z32:=Tryz.sizeOf175
 v32:=Tryz.zeroValue175
 t35:=Tryz.underlying203
 a35:=Tryz.isAgg203
 z35:=Tryz.sizeOf203
 v35:=Tryz.zeroValue203
 t36:=Tryz.underlying204
 a36:=Tryz.isAgg204
 z36:=Tryz.sizeOf204
 v36:=Tryz.zeroValue204
 t41:=Tryz.underlying156
 a41:=Tryz.isAgg156
 z41:=Tryz.sizeOf156
 v41:=Tryz.zeroValue156
 t44:=Tryz.underlying210
 a44:=Tryz.isAgg210
 z44:=Tryz.sizeOf210
 v44:=Tryz.zeroValue210
 t46:=Tryz.underlying212
 a46:=Tryz.isAgg212
 z46:=Tryz.sizeOf212
 v46:=Tryz.zeroValue212
 t53:=Tryz.underlying236
 a53:=Tryz.isAgg236
 z53:=Tryz.sizeOf236
 v53:=Tryz.zeroValue236
 t57:=Tryz.underlying240
 a57:=Tryz.isAgg240
 z57:=Tryz.sizeOf240
 v57:=Tryz.zeroValue240
 t63:=Tryz.underlying258
 a63:=Tryz.isAgg258
 z63:=Tryz.sizeOf258
 v63:=Tryz.zeroValue258
 t64:=Tryz.underlying253
 a64:=Tryz.isAgg253
 z64:=Tryz.sizeOf253
 v64:=Tryz.zeroValue253 }
def Tryz.compactA_ren:Go.Shelf.Ren:=⟨fun|43=>62|n=>n,fun|22=>36|23=>3|3=>3|4=>4|0=>0|n=>n,fun|n=>n⟩
theorem Tryz.compactA:Go.Proofs.SlLaysN.n43 Tryz.prog Tryz.compactA_ren:={
 mixed:=by kernel_rfl
 f43:=⟨Tryz.f62.name,by decide,Tryz.func62.trans (congrArg some (by kernel_rfl))⟩
 t0:=Tryz.underlying0
 a0:=Tryz.isAgg0
 z0:=Tryz.sizeOf0
 v0:=Tryz.zeroValue0
 t3:=Tryz.underlying3
 a3:=Tryz.isAgg3
 z3:=Tryz.sizeOf3
 v3:=Tryz.zeroValue3
 t4:=Tryz.underlying4
 a4:=Tryz.isAgg4
 z4:=Tryz.sizeOf4
 v4:=Tryz.zeroValue4
 t22:=Tryz.underlying36
 a22:=Tryz.isAgg36
 z22:=Tryz.sizeOf36
 v22:=Tryz.zeroValue36
 t23:=Tryz.underlying3
 a23:=Tryz.isAgg3
 z23:=Tryz.sizeOf3
 v23:=Tryz.zeroValue3
 i23:=by kernel_rfl }
def cmpP(p q:Pl):Int:=cmpE p.ed q.ed
theorem ltP(p q:Pl):ltOf cmpP p q=lessD p.1 q.1:=by
 unfold ltOf lessD cmpP
 simp only[zgN]
 rfl
theorem znF:SWO (ltOf cmpP):=by
 refine⟨fun x=>?_,fun x y z h k=>?_,fun x y z h k=>?_⟩
 ·rw[ltP];exact zcj _
 ·rw[ltP] at *;exact lessD_trans h k
 ·rw[ltP] at *
  rw[zbH] at *;omega
theorem zpL(ps:List Pl)(hl:ps.length≤1000000000)(R:RO) :
  zaV Tryz.prog 58 [.sl 0 ps.length,.val (.func (.func 59) #[] #[])] [.row 52 13 (rowP ps)] R fun R' bs r =>
   R'=R∧∃qs:List Pl,qs.Perm ps∧(qs.Pairwise fun x y=>lessD y.1 x.1=false)∧bs=[.row 52 13 (rowP qs)]∧r = .val (.tuple #[]):=by
 have h:=ze8 Tryz.sortEd 13 Tryz.isAgg52 Tryz.sizeOf52 (fun p:Pl=>p.ed.cells) (fun _=>rfl) (fun p=>ze5 _) cmpP znF 59 52
  (enters_of Tryz.func59 (by kernel_rfl) rfl) (fun x y=>@zhh ⟨1⟩ x.ed y.ed _) ps (by omega) R
 simp only[ltP] at h
 exact h
theorem zj1(fv:Value)(R:RO):zaa Tryz.prog 58 [.slice none 0 0,fv] R fun _ r=>r = .tuple #[]:=zdH Tryz.sortEd fv R
theorem zlo(a b:Mv)(R:RO):zaa Tryz.prog 68 [a.val,b.val] R fun _ v=>v = .int .i64 (cmpI a.day b.day):=by
 simp only[Mv.val]
 refine zac mix Tryz.func68 comp68 (by simp[Tryz.ntmps68]) ?_;simp only[go_sem,↓reduceIte,Qa,vc68,rs68]
 refine vcall (zci a.day b.day R) ?_
 rintro R1 v h1 rfl
 try simp only[go_sem,↓reduceIte]
def rowM(ms:List Mv):List Value:=(ms.map Mv.cells).flatten
theorem zby(os:List Mv):(rowM os).length=os.length*5:=by
 unfold rowM
 rw[zag (k:=5) (fun us hus=>by obtain⟨x,_,rfl⟩:=List.mem_map.1 hus;rfl)]
 simp
theorem zb5(os:List Mv)(o:Mv):rowM (os++[o])=rowM os++o.cells:=by simp[rowM]
def cmpM(a b:Mv):Int:=cmpI a.day b.day
theorem zfa(e:Mv):∀v∈e.cells,v.oneCell'=true:=by
 intro v hv
 simp only[Mv.cells,List.mem_cons,List.not_mem_nil,or_false] at hv
 rcases hv with rfl|rfl|rfl|rfl|rfl<;>rfl
instance:Inhabited Mv:=⟨⟨0,false,0,0,0⟩⟩
theorem ltM(p q:Mv):ltOf cmpM p q=decide (p.day<q.day):=by
 unfold ltOf cmpM cmpI
 split
 ·simp[*]
 ·split<;>simp<;>omega
theorem znG:SWO (ltOf cmpM):=by
 refine⟨fun x=>?_,fun x y z h k=>?_,fun x y z h k=>?_⟩
 ·rw[ltM];simp
 ·rw[ltM] at *;simp at *;omega
 ·rw[ltM] at *;simp at *;omega
theorem zpM(ms:List Mv)(hl:ms.length≤1000000000)(R:RO) :
  zaV Tryz.prog 67 [.sl 0 ms.length,.val (.func (.func 68) #[] #[])] [.row 50 5 (rowM ms)] R fun R' bs r =>
   R'=R∧∃qs:List Mv,qs.Perm ms∧(qs.Pairwise fun x y=>x.day≤y.day)∧bs=[.row 50 5 (rowM qs)]∧r = .val (.tuple #[]):=by
 have h:=ze8 Tryz.sortMv 5 Tryz.isAgg50 Tryz.sizeOf50 Mv.cells (fun _=>rfl) zfa cmpM znG 68 50
  (enters_of Tryz.func68 (by kernel_rfl) rfl) (fun x y=>@zlo ⟨1⟩ x y _) ms (by omega) R
 simp only[ltM,decide_eq_false_iff_not,Int.not_lt] at h
 exact h
theorem zj2(fv:Value)(R:RO):zaa Tryz.prog 67 [.slice none 0 0,fv] R fun _ r=>r = .tuple #[]:=zdH Tryz.sortMv fv R
theorem zlp(xs:List Int)(hl:xs.length≤1000000000)(R:RO):zaV Tryz.prog 61 [.sl 0 xs.length] [.row 3 1 (xs.map (.int .i64))] R fun R' bs r=>R'=R∧bs=[.row 3 1 ((xs.mergeSort fun x y=>decide (x≤y)).map (.int .i64))]∧r = .val (.tuple #[]):=zhn Tryz.sortA 3 xs (by omega) R
theorem zhp(xs:List Int)(hl:xs.length≤1000000000)(R:RO):zaV Tryz.prog 62 [.sl 0 xs.length] [.row 3 1 (xs.map (.int .i64))] R fun R' bs r=>R'=R∧bs=[.row 3 1 ((Lib.compact xs++List.replicate (xs.length-(Lib.compact xs).length) 0).map (.int .i64))]∧r = .sl 0 (Lib.compact xs).length:=zho Tryz.compactA 3 xs (by omega) R
end Go.Proofs.YtdgndfabdmecmaaGreat
namespace Go.Proofs.YtdgndfabdmecmaaGreat
set_option linter.unusedSectionVars false
variable [Go.Proofs.YtdgndfabdmecmaaGreat.Vc.Drew]
open Go.Proofs.YtdgndfabdmecmaaGreat.Vc
theorem PlOK.of{R:RO}{ds:List De}{v:Value}(h:EdsV R v ds):∃a cap,v = .slice a ds.length cap∧ds.length≤cap∧∀i (hi:i<ds.length),∃ad p,a=some ad∧p.1=ds[i]∧(∀j u,(p.ed.cells)[j]?=some u→R ((ad.add (i*13)).add j) u)∧PlOK R p:=by
 obtain⟨a,cap,rfl,hc,hf⟩:=h.form
 refine⟨a,cap,rfl,hc,fun i hi=>?_⟩
 obtain⟨ad,ra,rn,rc,had,hR,hr⟩:=hf i hi
 exact⟨ad,(ds[i],ra,rn,rc),had,rfl,hR,hr⟩
theorem EdsV.row{R:RO}{b cap:Nat}{ps:List Pl}(h:RowIn R b (rowP ps))(hc:(rowP ps).length≤cap*13)(hp:∀p∈ps,PlOK R p)(hl:ps.length≤1000000000):EdsV R (.slice (some ⟨b,0,none⟩) ps.length cap) (ps.map (·.1)):=by
 have h1:=RowIn.slK h (zeh ps) (by omega) hc
 rw[List.length_map] at h1
 refine⟨_,h1,by simp,fun i c d hi hd=>?_,by simpa using hl⟩
 rw[List.getElem?_map] at hi hd
 obtain⟨p,hp',rfl⟩:=Option.map_eq_some_iff.1 hi
 rw[hp'] at hd
 simp only[Option.map_some,Option.some.injEq] at hd
 subst hd
 exact(hp p (List.mem_of_getElem? hp')).edV
theorem EdsV.pls{R:RO}{v:Value}{ds:List De}(h:EdsV R v ds):∃(a:Option Addr) (cap:Nat) (ps:List Pl),v = .slice a ds.length cap∧ds.length≤cap∧ps.map (·.1)=ds∧(∀p∈ps,PlOK R p)∧(rowP ps≠[]→∃ad,a=some ad∧∀i v,(rowP ps)[i]?=some v→R (ad.add i) v):=by
 obtain⟨a,cap,rfl,hc,hf⟩:=PlOK.of h
 let f:Nat→Pl:=fun i=>if h:i<ds.length then(hf i h).choose_spec.choose else default
 have hfi:∀i (hi:i<ds.length),∃ad,a=some ad∧(f i).1=ds[i]∧(∀j u,((f i).ed.cells)[j]?=some u→R ((ad.add (i*13)).add j) u)∧PlOK R (f i):=fun i hi=>by
  refine⟨(hf i hi).choose,?_⟩
  have hs:=(hf i hi).choose_spec.choose_spec
  simp only[f,hi,dif_pos]
  exact hs
 refine⟨a,cap,(List.range ds.length).map f,rfl,hc,?_,fun p hp=>?_,fun hne=>?_⟩
 ·apply List.ext_getElem
  ·simp
  ·intro i h1 h2
   obtain⟨_,_,h3,_⟩:=hfi i h2
   simpa using h3
 ·obtain⟨i,hi,rfl⟩:=List.mem_map.1 hp
  obtain⟨_,_,_,_,h4⟩:=hfi i (List.mem_range.1 hi)
  exact h4
 ·have hl:0<ds.length:=by
   have h1:=zaH ((List.range ds.length).map f)
   have h2:=List.length_pos_iff.2 hne
   simp at h1
   omega
  obtain⟨ad,ha,_⟩:=hfi 0 hl
  refine⟨ad,ha,fun i v hi=>?_⟩
  obtain⟨us,hus,hu⟩:=zjj (k:=13) (zeh _) (by omega) hi
  rw[List.getElem?_map,List.getElem?_map] at hus
  obtain⟨p,hp,rfl⟩:=Option.map_eq_some_iff.1 hus
  obtain⟨q,hq,rfl⟩:=Option.map_eq_some_iff.1 hp
  have hqq:=List.getElem?_eq_some_iff.1 hq
  simp only[List.length_range,List.getElem_range] at hqq
  obtain⟨hlt,rfl⟩:=hqq
  obtain⟨ad',ha',_,hR,_⟩:=hfi (i/13) hlt
  rw[ha] at ha'
  simp only[Option.some.injEq] at ha'
  subst ha'
  have:=hR _ _ hu
  rw[zdk,Nat.mul_comm,Nat.div_add_mod] at this
  exact this
theorem EdsV.src{R:RO}{v:Value}{ds:List De}(h:EdsV R v ds):∃(a:Option Addr) (cap:Nat) (ps:List Pl),v = .slice a ds.length cap∧ps.map (·.1)=ds∧(∀p∈ps,PlOK R p)∧∀{b:List Blk} {kk:List Value→Prop} {t:Tok kk},kk (rowP ps)→SrcP (allR b R) 13 a ds.length kk t:=by
 obtain⟨a,cap,ps,rfl,_,h1,h2,h3⟩:=h.pls
 refine⟨a,cap,ps,rfl,h1,h2,fun hk=>vsrc (rowP ps) (by rw[zaH,←h1];simp) (fun u hu=>?_) h3 hk⟩
 unfold rowP at hu
 obtain⟨c,hc,hu'⟩:=List.mem_flatten.1 hu
 obtain⟨q,_,rfl⟩:=List.mem_map.1 hc
 exact ze5 _ u hu'
theorem EdsV.nil(R:RO):EdsV R (.slice none 0 0) []:=⟨[],⟨none,0,rfl,Nat.le_refl _,by simp⟩,rfl,by simp,by simp⟩
theorem zc6(p:Pl)(h:p.2.2.1=p.1.rule.length):zbg p.ed=zak p.1:=by
 unfold zak Pl.ed
 rw[h]
 rfl
set_option maxRecDepth 8000 in
theorem zpN(ds:List De)(v:Value)(R:RO)(h:EdsV R v ds):zaa Tryz.prog 25 [v] R fun R' r=>match allD ds with
  |.error k=>r = .tuple #[.slice none 0 0,.int .i64 k]
  |.ok o=>∃u,r = .tuple #[u,.int .i64 0]∧EdsV R' u o:=by
 have hdl:ds.length≤1000000000:=by obtain⟨_,_,_,_,h⟩:=h;exact h
 obtain⟨a,cap,rfl,hc,hf⟩:=PlOK.of h
 refine zac mix Tryz.func25 comp25 (by simp[Tryz.ntmps25]) ?_;simp only[go_sem,↓reduceIte,Qa,reduceCtorEq,vc25,rs25]
 refine⟨fun hgt=>?_,fun hle=>?_⟩
 ·have:allD ds = .error 2:=by unfold allD;rw[if_pos (by omega)]
  rw[this]
 have hall:allD ds=okD (distD [] ds):=by unfold allD;rw[if_neg (by omega)]
 refine zal (Nat×List Pl×List Pl) (fun x=>[(17,.val (.int .i64 x.1)),(16,.val (.int .i64 ds.length)),(15,.val (.slice a ds.length cap)),(4,.mp 0),(5,gs 1 x.2.2.length)])
  (fun x=>[.mp (ents 0 x.2.1) x.2.1.length,gb 52 13 (rowP x.2.2)])
  (fun x R=>x.1≤ds.length∧x.2.1.map (·.1)=x.2.2.map (·.1)∧distD [] (ds.take x.1)=some (x.2.1.map (·.1))∧x.2.2.length≤x.1∧(∀p∈x.2.1,PlOK R p)∧∀p∈x.2.2,PlOK R p) (fun x=>ds.length-x.1) (0,[],[]) [] ?_ ?_ ?_ ?_
 ·(try simp only[go_sem,↓reduceIte,Qa,Qb,reduceCtorEq])<;>(repeat' (first|rfl|trivial|constructor|(intro h;exact absurd rfl h)))
 ·try simp only[go_sem,Qb,Qe,Qf]
 ·exact⟨Nat.zero_le _,rfl,rfl,Nat.le_refl _,by simp,by simp⟩
 rintro⟨i,qs,ps⟩ env R1 hle1 hE ⟨hi,hqp,hd,hpl,hqo,hpo⟩
 (simp only[go_sem] at hE;obtain⟨e17,e16,e15,e4,e5⟩:=hE;simp only[go_sem,↓reduceIte,Qa,Qb,e17,e16,e15,e5];dsimp only at *)
 refine⟨fun hlt=>⟨hlt,?_⟩,fun hge=>?_⟩
 ·have hlt':i<ds.length:=by omega
  obtain⟨ad,p,had,hp1,hR,hpok⟩:=hf i hlt'
  have hcells:∀j u,(p.ed.cells)[j]?=some u→R1 ((ad.add (i*13)).add j) u:=fun j u hj=>hle1 _ _ (hR j u hj)
  refine vat ad had ?_
  try simp only[go_sem,↓reduceIte]
  refine zaf p.ed.cells rfl hcells ?_
  simp only[go_sem,↓reduceIte,Qa,Qb,Ed.cells,Pl.ed,De.ed]
  refine vcall (zlg p.ed R1) ?_
  rintro R2 v hle2 rfl
  try simp only[go_sem,↓reduceIte,Qa,Qb,Qd]
  rw[zc6 p hpok.len]
  refine⟨fun hv=>?_,fun hv=>?_⟩
  ·have hb:=zll hlt' hd (zhl (by rw[←hp1];simpa using hv))
   rw[hall,hb]
   rfl
  simp only[go_sem,e4]
  have hpk:PlOK R2 p:=hpok.mono (RO.le_trans hle1 hle2)
  have hstep:=zj0 hlt' hd
  rw[←hp1] at hstep
  cases hfind:qs.find? (fun q=>keyEq p.1 q.1) with
  |some q =>
   obtain⟨j,hj⟩:=mfind_some p.1 q qs 0 0 hfind
   have hq:=List.find?_some hfind
   have hqm:=List.mem_of_find?_eq_some hfind
   rw[zjn hv (by rw[zjl,hfind];rfl)] at hstep
   refine vmget (ents 0 qs) qs.length (some (j,q.ed.val)) (by rw[show Value.agg #[Value.int .i64 p.1.device,.int .i64 p.1.seq]=keyV p.1 from rfl,ze6];simp[keyEq]) rfl hj ?_
   simp only[go_sem,↓reduceIte,Qa,Qb,mres,Ed.val,Pl.ed,De.ed,e4]
   refine vcall (eSame q.1 p.1 q.ed.cells p.ed.cells R2 ((hqo q hqm).mono hle2).edV hpk.edV) ?_
   rintro R3 v hle3 rfl
   simp only[go_sem,↓reduceIte,Qa,Qb,Qe,Qf,e17,e16,e15,e4,e5]
   refine⟨fun hne=>?_,fun heq=>?_⟩
   ·rw[if_neg hne] at hstep
    have hb:=distD_none_append _ _ (ds.drop (i+1)) hstep
    rw[List.take_append_drop] at hb
    rw[hall,hb]
    rfl
   ·rw[if_pos heq] at hstep
    refine⟨_,W.in64 (by omega),(i+1,qs,ps),[],?_⟩
    try simp only[go_sem]
    refine⟨by omega,⟨rfl,fun h=>gb_ne h⟩,by decide,by omega,hqp,hstep,by omega,fun p hp=>(hqo p hp).mono (RO.le_trans hle2 hle3),fun p hp=>(hpo p hp).mono (RO.le_trans hle2 hle3)⟩
  |none =>
   have hn:=zgk p.1 qs 0 0 (fun q hq=>by have:=List.find?_eq_none.1 hfind q hq;simpa using this)
   rw[zjm hv (by rw[zjl,hfind];rfl)] at hstep
   refine vmget (ents 0 qs) qs.length none (by rw[show Value.agg #[Value.int .i64 p.1.device,.int .i64 p.1.seq]=keyV p.1 from rfl,ze6];simp[keyEq]) rfl hn ?_
   simp only[go_sem,↓reduceIte,Qa,Qb,mres,e4]
   refine⟨by rw[show Value.agg #[Value.int .i64 p.1.device,.int .i64 p.1.seq]=keyV p.1 from rfl,ze6];simp[keyEq],vmput (ents 0 qs) qs.length none rfl hn ?_⟩
   simp only[go_sem,↓reduceIte,Qa,mset]
   refine vcall (zli p.1.rule _ R2 hpk) ?_
   intro R3 u hle3 hu
   obtain⟨ua,un,uc,rfl⟩:=hu.form
   simp only[go_sem,↓reduceIte,Qa,Qb,Qc,Qd,e5]
   refine vgrow (rowP ps) (fun _=>rfl) (fun h0=>by rw[h0,zbv];rfl) (by rw[zaH]) (by omega) (by omega) (by omega) ?_
   simp only[go_sem,↓reduceIte,Qa,Qb,Qe,Qf,e17,e16,e15,e4]
   refine⟨_,W.in64 (by omega),(i+1,qs++[p],ps++[(p.1,ua,un,uc)]),[0,6],?_⟩
   try simp only[go_sem,Qd]
   refine⟨by omega,⟨rfl,by rw[zhk,Nat.zero_add];rfl,fun _=>by rw[zaF];rfl⟩,by decide,by omega,by simp[hqp],by rw[hstep];simp,by omega,fun q hq=>?_,fun q hq=>?_⟩
   ·rcases List.mem_append.1 hq with hq|hq
    ·exact(hqo q hq).mono (RO.le_trans hle2 hle3)
    ·simp only[List.mem_cons,List.not_mem_nil,or_false] at hq;subst hq;exact hpk.mono hle3
   ·rcases List.mem_append.1 hq with hq|hq
    ·exact(hpo q hq).mono (RO.le_trans hle2 hle3)
    ·simp only[List.mem_cons,List.not_mem_nil,or_false] at hq;subst hq;exact hu
 ·obtain rfl:i=ds.length:=by omega
  rw[List.take_length] at hd
  rw[hall,hd]
  simp only[okD]
  by_cases h0:ps.length=0
  ·rw[h0]
   try simp only[go_sem]
   refine vcall (zj1 _ R1) ?_
   rintro R2 v hle2 rfl
   simp only[go_sem,↓reduceIte,Qa,e5]
   rw[h0]
   try simp only[go_sem,↓reduceIte]
   obtain rfl:ps=[]:=List.eq_nil_of_length_eq_zero h0
   have hqs:qs=[]:=by simpa using hqp
   subst hqs
   exact⟨_,rfl,by simpa[sortD] using EdsV.nil R2⟩
  ·rw[zaI h0]
   try simp only[go_sem]
   refine vhand [1] [.sl 0 ps.length,.val (.func (.func 59) #[] #[])] [.row 52 13 (rowP ps)] (zpL ps (by omega) R1) rfl rfl rfl ?_ (by simp) rfl rfl ?_
   ·try simp only[go_sem]
    exact gb_ne (fun e=>h0 (by have:=zaH ps;rw[e] at this;simp at this;omega))
   rintro R2 bs r hle2 ⟨rfl,rs,hperm,hpw,rfl,rfl⟩ _
   simp only[go_sem,↓reduceIte,Qa,Qb,e5]
   rw[zaI h0]
   simp only[go_sem,setG]
   intro b cap' R3 hle3 hrow hcap hfr
   have hk:KeysD (qs.map (·.1)):=zcz hd List.Pairwise.nil
   have hperm1:(rs.map (·.1)).Perm (qs.map (·.1)):=by rw[hqp];exact hperm.map _
   have hs:rs.map (·.1)=sortD (qs.map (·.1)):=zjk hk hperm1 (List.pairwise_map.2 hpw)
   refine⟨_,rfl,?_⟩
   rw[←hs,show ps.length=rs.length from hperm.length_eq.symm]
   exact EdsV.row hrow hcap (fun p hp=>(hpo p (hperm.mem_iff.1 hp)).mono hle3) (by rw[hperm.length_eq];omega)
end Go.Proofs.YtdgndfabdmecmaaGreat
