/- Lemmas of our own, no statement of the seat; the last one of the claim's texts proves the law. -/
import Derived.Test.YtdgndfabdmecmaaGreatBxg
import Derived.Test.YtdgndfabdmecmaaGreatBxc
import Derived.Test.YtdgndfabdmecmaaGreatBxd
open Nat renaming reduceEqDiff → Qa, reduceAdd → Qb, reduceMul → Qc, reduceLeDiff → Qd, reduceLT → Qe, reduceBNe → Qf
open Int renaming reduceLE → Ja, reduceLT → Jb, reduceToNat → Jc, cast_ofNat_Int → Jd, reduceEq → Je, reduceNe → Jf
set_option linter.unusedSimpArgs false
set_option linter.unusedVariables false
namespace Go.Proofs.YtdgndfabdmecmaaGreat
set_option linter.unusedSectionVars false
variable [Go.Proofs.YtdgndfabdmecmaaGreat.Vc.Drew]
open Go.Proofs.YtdgndfabdmecmaaGreat.Vc
/-! ### Package device: order, equality -/
theorem zps(a b:Ed)(R:RO):zaa Tryz.prog 46 [a.val,b.val] R fun _ v=>v = .int .i64 (cmpE a b):=by
 simp only[Ed.val]
 refine zac mix Tryz.func46 comp46 (by simp[Tryz.ntmps46]) ?_;simp only[go_sem,↓reduceIte,Qa,vc46,rs46]
 refine vcall (zci a.seq b.seq R) ?_
 rintro R1 v h1 rfl
 try simp only[go_sem,↓reduceIte,Qa]
 refine vcall (zci a.device b.device R1) ?_
 rintro R2 v h2 rfl
 try simp only[go_sem,↓reduceIte,Qa,Qb,Qd]
 refine zez ?_
 try simp only[go_sem,↓reduceIte,Qb]
 intro bb cap R3 hle hrow hcap hfr
 have hI:Ints R3 (.slice (some ⟨bb,0,none⟩) 2 cap) [cmpI a.seq b.seq,cmpI a.device b.device]:=RowIn.ints (xs:=[cmpI a.seq b.seq,cmpI a.device b.device]) hrow (by simpa using hcap)
 refine vcall (eOr _ _ R3 hI (by simp)) ?_
 rintro R4 v h4 rfl
 try simp only[go_sem,↓reduceIte]
 unfold cmpE
 simp only[orI]
 by_cases h1:cmpI a.seq b.seq=0
 ·by_cases h2:cmpI a.device b.device=0<;>simp[h1,h2]
 ·simp[h1]
theorem zlW(x y:Nd)(cx cy:List Value)(R:RO)(hx:NodeV R cx x)(hy:NodeV R cy y):zaa Tryz.prog 86 [.agg cx.toArray,.agg cy.toArray] R fun _ r=>r = .bool (decide (x=y)):=by
 obtain⟨lv,rfl,hi,hl⟩:=hx
 obtain⟨lu,rfl,hi',hl'⟩:=hy
 obtain⟨kind,cal,l,r,n,m,list,name⟩:=x
 obtain⟨kind',cal',l',r',n',m',list',name'⟩:=y
 simp only[Nd.cells] at *
 refine zac mix Tryz.func86 comp86 (by simp[Tryz.ntmps86]) ?_;simp only[go_sem,↓reduceIte,Qa,vc86,rs86]
 have hb:(name==name')=decide (name=name'):=by
  by_cases e:name=name'
  ·subst e
   simp only[decide_true]
   exact zb4 name
  ·rw[decide_eq_false e]
   cases hq:(name==name') with
   |false=>rfl
   |true=>exact absurd (zcM hq) e
 rw[hb]
 simp only[Nd.mk.injEq]
 repeat' (with_reducible first|refine And.intro ?_ ?_|intro _)
 ·refine vcall (zph list list' lv lu R hi hi' (by omega)) ?_
  rintro R1 v h1 rfl
  try simp only[go_sem,↓reduceIte,Qa]
  simp_all
 all_goals simp_all
theorem hbDN:zaB Tryz.prog 86=true:=by kernel_rfl
theorem zkk(xs ys:List Nd)(v u:Value)(R:RO)(h:RuleV R v xs)(k:RuleV R u ys):zaa Tryz.prog 85 [v,u,.func (.func 86) #[] #[]] R fun _ r=>r = .bool (decide (xs=ys)):=by
 obtain⟨cs,h1,h2,h3,h4⟩:=h
 obtain⟨ds,k1,k2,k3,k4⟩:=k
 obtain⟨a,cap,rfl,hc,hf⟩:=SlK.form h1
 obtain⟨b,cap',rfl,hc',hf'⟩:=SlK.form k1
 refine zac mix Tryz.func85 comp85 (by simp[Tryz.ntmps85]) ?_;simp only[go_sem,↓reduceIte,Qa,reduceCtorEq,vc85,rs85]
 refine⟨fun hne=>?_,fun he=>?_⟩
 ·rw[decide_eq_false];rintro rfl;exact hne (by omega)
 have he':xs.length=ys.length:=by omega
 refine zaj Nat (fun i=>[(17,.val (.int .i64 i)),(0,.val (.slice a cs.length cap)),(15,.val (.slice a cs.length cap)),(16,.val (.int .i64 cs.length)),(1,.val (.slice b ds.length cap')),(2,.val (.func (.func 86) #[] #[]))]) (fun _=>[]) (fun i _=>i≤cs.length∧xs.take i=ys.take i) (fun i=>cs.length-i) 0 ?_ rfl ?_ ?_
 ·(try simp only[go_sem,↓reduceIte,Qa,reduceCtorEq])<;>(repeat' (first|rfl|trivial|constructor|(intro h;exact absurd rfl h)))
 ·exact⟨Nat.zero_le _,rfl⟩
 rintro i env R1 hle hE ⟨hi,hp⟩
 (simp only[go_sem] at hE;obtain⟨e17,e0,e15,e16,e1,e2⟩:=hE;simp only[go_sem,↓reduceIte,Qa,e17,e15,e16];dsimp only at *)
 refine⟨fun hlt=>⟨hlt,?_⟩,fun hge=>?_⟩
 ·have hlt':i<cs.length:=by omega
  obtain⟨hl,ad,had,hR⟩:=hf i hlt'
  obtain⟨hl',ad',had',hR'⟩:=hf' i (by omega)
  have hx:=h3 i _ _ (List.getElem?_eq_getElem hlt') (List.getElem?_eq_getElem (by omega))
  have hy:=k3 i _ _ (List.getElem?_eq_getElem (by omega:i<ds.length)) (List.getElem?_eq_getElem (by omega:i<ys.length))
  obtain⟨x,hxe⟩:∃x,x=xs[i]'(by omega):=⟨_,rfl⟩
  obtain⟨y,hye⟩:∃y,y=ys[i]'(by omega):=⟨_,rfl⟩
  rw[←hxe] at hx
  rw[←hye] at hy
  have hx':=hx
  have hy':=hy
  obtain⟨lv,hcx,hI,hIl⟩:=hx
  obtain⟨lu,hcy,hI',hIl'⟩:=hy
  have ho:lv.oneCell'=true:=by obtain⟨_,_,rfl,_⟩:=hI.form;rfl
  have ho':lu.oneCell'=true:=by obtain⟨_,_,rfl,_⟩:=hI'.form;rfl
  rw[hcx] at hR hx'
  rw[hcy] at hR' hy'
  refine vat ad had ?_
  try simp only[go_sem,↓reduceIte]
  refine zaf (x.cells lv) rfl (fun j u hj=>hle _ _ (hR j u hj)) ?_
  simp only[go_sem,↓reduceIte,Qa,Qb,Nd.cells,e1]
  refine⟨ho,by omega,vat ad' had' ?_⟩
  try simp only[go_sem,↓reduceIte]
  refine zaf (y.cells lu) rfl (fun j u hj=>hle _ _ (hR' j u hj)) ?_
  simp only[go_sem,↓reduceIte,Qa,Qb,Nd.cells,e2]
  refine⟨ho',?_⟩
  refine⟨hbDN,vcall (zlW x y _ _ R1 (hx'.mono hle) (hy'.mono hle)) ?_⟩
  rintro R2 w h6 rfl
  simp only[go_sem,↓reduceIte,Qa,Qf,reduceCtorEq,e17,e0,e15,e16,e1,e2]
  refine⟨fun hne=>?_,fun heq=>?_⟩
  ·rw[decide_eq_false];rintro rfl;exact hne (by rw[hxe,hye])
  ·refine⟨_,W.in64 (by omega),i+1,by omega,by constructor,by omega,?_⟩
   rw[List.take_succ_eq_append_getElem (by omega:i<xs.length),List.take_succ_eq_append_getElem (by omega:i<ys.length),hp,←hxe,←hye,heq]
 ·obtain rfl:i=cs.length:=by omega
  rw[h2,List.take_length,he',List.take_length] at hp
  simp[hp]
theorem dSame(x y:De)(cx cy:List Value)(R:RO)(hx:EdV R cx x)(hy:EdV R cy y)(hk:keyEq x y=true):zaa Tryz.prog 48 [.agg cx.toArray,.agg cy.toArray] R fun _ r=>r = .bool (decide (x=y)):=by
 obtain⟨a,n,c,e,h⟩:=hx
 obtain⟨a',n',c',e',h'⟩:=hy
 rw[e,e']
 clear e e'
 obtain⟨kind,day,device,seq,mv,minute,length,rule,zone⟩:=x
 obtain⟨kind',day',device',seq',mv',minute',length',rule',zone'⟩:=y
 obtain⟨md,mr,mt,mm,ml⟩:=mv
 obtain⟨md',mr',mt',mm',ml'⟩:=mv'
 rw[keyEq_iff] at hk
 obtain⟨hk1,hk2⟩:=hk
 simp only[De.ed,Ed.val] at *
 subst hk1 hk2
 refine zac mix Tryz.func48 comp48 (by simp[Tryz.ntmps48]) ?_;simp only[go_sem,↓reduceIte,Qa,Qb,vc48,rs48]
 have hb:(zone==zone')=decide (zone=zone'):=by
  by_cases e:zone=zone'
  ·subst e
   simp only[decide_true]
   exact zb4 zone
  ·rw[decide_eq_false e]
   cases hq:(zone==zone') with
   |false=>rfl
   |true=>exact absurd (zcM hq) e
 rw[hb]
 simp only[De.mk.injEq,Mv.mk.injEq]
 repeat' (with_reducible first|refine And.intro ?_ ?_|intro _)
 ·refine vcall (zkk rule rule' _ _ R h h') ?_
  rintro R1 v h1 rfl
  try simp only[go_sem,↓reduceIte,Qa]
  simp_all
 all_goals (clear h h')
 all_goals simp_all
/-! ### Devices: plain -/
structure Dv where
 id:Int
 epoch:Int
 next:Int
 edits:List De
 deriving DecidableEq
def okEd(next:Int)(e:De):Bool:=zak e&&decide (e.seq/64<next)
def hdrOK(id epoch next:Int)(n:Nat):Bool:=decide (0≤id∧id≤15∧0≤epoch∧epoch≤63∧1≤next∧next≤17179869184∧n≤4096)
instance sortedDec(l:List De):Decidable (zae l):=inferInstanceAs (Decidable (List.Pairwise _ l))
def zah(d:Dv):Bool:=hdrOK d.id d.epoch d.next d.edits.length&&d.edits.all (okEd d.next)&&decide (zae d.edits)
def mgo:Nat→List De→List De→List De×List De×Bool
 |0,_,_=>([],[],true)
 |_+1,[],[]=>([],[],true)
 |n+1,x::a,[]=>(x::(mgo n a []).1,(mgo n a []).2.1,(mgo n a []).2.2)
 |n+1,[],y::b=>(y::(mgo n [] b).1,y::(mgo n [] b).2.1,(mgo n [] b).2.2)
 |n+1,x::a,y::b =>
  if lessD x y=true then(x::(mgo n a (y::b)).1,(mgo n a (y::b)).2.1,(mgo n a (y::b)).2.2)
  else if lessD y x=true then(y::(mgo n (x::a) b).1,y::(mgo n (x::a) b).2.1,(mgo n (x::a) b).2.2)
  else(x::(mgo n a b).1,(mgo n a b).2.1,decide (x=y)&&(mgo n a b).2.2)
def freshD(a b:List De):List De:=b.filter fun y => !(a.any (keyEq y))
def zbG(a b:List De):Bool:=a.all fun x=>b.all fun y => !keyEq x y||decide (x=y)
def zcD(a b:List De):List De:=(mgo (a.length+b.length) a b).1
def nextD(n:Int)(l:List De):Int:=l.foldl (fun n e=>max n (e.seq/64+1)) n
theorem zae.tail{x:De}{l:List De}(h:zae (x::l)):zae l:=(List.pairwise_cons.1 h).2
theorem zae.head{x:De}{l:List De}(h:zae (x::l)):∀y∈l,lessD x y=true:=(List.pairwise_cons.1 h).1
theorem zkl(x:De):keyEq x x=true:=by simp[keyEq]
theorem zbl{x y:De}(h:keyEq x y=false):keyEq y x=false:=by rw[zay];exact h
structure MgoS (a b:List De) (r:List De×List De×Bool):Prop where
 sorted:zae r.1
 mem:∀x,x∈r.1↔x∈a∨(x∈b∧∀y∈a,keyEq x y=false)
 fresh:r.2.1=freshD a b
 agree:r.2.2=zbG a b
theorem zgw(b:List De):freshD [] b=b:=by simp[freshD]
theorem zdC{x y:De}{a b:List De}(h:∀z∈b,lessD x z=true):freshD (x::a) b=freshD a b:=by
 unfold freshD
 refine List.filter_congr fun z hz=>?_
 have h1:=zaE (h z hz)
 have h2:keyEq z x=false:=zbl h1
 simp[h2]
theorem zdP(x:De)(a b:List De):zbG (x::a) b=((b.all fun y => !keyEq x y||decide (x=y))&&zbG a b):=rfl
theorem zpt{x:De}{b:List De}(h:∀z∈b,lessD x z=true):(b.all fun y => !keyEq x y||decide (x=y))=true:=by
 rw[List.all_eq_true]
 intro z hz
 have:=zaE (h z hz)
 simp[this]
theorem zco:∀(n:Nat) (a b:List De),a.length+b.length≤n→zae a→zae b→MgoS a b (mgo n a b)
 |0,a,b,hn,_,_=>by
  have ha:a=[]:=List.eq_nil_of_length_eq_zero (by omega)
  have hb:b=[]:=List.eq_nil_of_length_eq_zero (by omega)
  subst ha hb
  exact⟨List.Pairwise.nil,by simp[mgo],rfl,rfl⟩
 |n+1,[],[],_,_,_=>⟨List.Pairwise.nil,by simp[mgo],rfl,rfl⟩
 |n+1,x::a,[],hn,ha,hb=>by
  have ih:=zco n a [] (by simp at hn ⊢;omega) ha.tail hb
  refine⟨List.pairwise_cons.2 ⟨fun z hz=>?_,ih.sorted⟩,fun z=>?_,by show(mgo n a []).2.1=_;rw[ih.fresh];rfl,by show(mgo n a []).2.2=_;rw[ih.agree,zdP];rfl⟩
  ·rcases(ih.mem z).1 hz with h|⟨h,_⟩
   ·exact ha.head z h
   ·simp at h
  ·show z∈x::(mgo n a []).1↔_
   rw[List.mem_cons,ih.mem,List.mem_cons]
   simp
 |n+1,[],y::b,hn,ha,hb=>by
  have ih:=zco n [] b (by simp at hn ⊢;omega) ha hb.tail
  refine⟨List.pairwise_cons.2 ⟨fun z hz=>?_,ih.sorted⟩,fun z=>?_,by show y::(mgo n [] b).2.1=_;rw[ih.fresh,zgw,zgw],by show(mgo n [] b).2.2=_;rw[ih.agree];rfl⟩
  ·rcases(ih.mem z).1 hz with h|⟨h,_⟩
   ·simp at h
   ·exact hb.head z h
  ·show z∈y::(mgo n [] b).1↔_
   rw[List.mem_cons,ih.mem,List.mem_cons]
   simp
 |n+1,x::a,y::b,hn,ha,hb=>by
  unfold mgo
  by_cases hxy:lessD x y=true
  ·rw[if_pos hxy]
   have ih:=zco n a (y::b) (by simp at hn ⊢;omega) ha.tail hb
   have hxb:∀z∈y::b,lessD x z=true:=fun z hz=>by
    rcases List.mem_cons.1 hz with rfl|hz
    ·exact hxy
    ·exact lessD_trans hxy (hb.head z hz)
   refine⟨List.pairwise_cons.2 ⟨fun z hz=>?_,ih.sorted⟩,fun z=>?_,by show(mgo n a (y::b)).2.1=_;rw[ih.fresh,zdC (y:=y) hxb],by show(mgo n a (y::b)).2.2=_;rw[ih.agree,zdP,zpt hxb,Bool.true_and]⟩
   ·rcases(ih.mem z).1 hz with h|⟨h,_⟩
    ·exact ha.head z h
    ·exact hxb z h
   ·show z∈x::(mgo n a (y::b)).1↔_
    rw[List.mem_cons,ih.mem,List.mem_cons (a:=z) (b:=x)]
    constructor
    ·rintro(h|h|⟨h1,h2⟩)
     ·exact .inl (.inl h)
     ·exact .inl (.inr h)
     ·refine .inr ⟨h1,fun w hw=>?_⟩
      rcases List.mem_cons.1 hw with rfl|hw
      ·exact zbl (zaE (hxb z h1))
      ·exact h2 w hw
    ·rintro((h|h)|⟨h1,h2⟩)
     ·exact .inl h
     ·exact .inr (.inl h)
     ·exact .inr (.inr ⟨h1,fun w hw=>h2 w (List.mem_cons_of_mem _ hw)⟩)
  ·rw[if_neg hxy]
   by_cases hyx:lessD y x=true
   ·rw[if_pos hyx]
    have ih:=zco n (x::a) b (by simp at hn ⊢;omega) ha hb.tail
    have hya:∀z∈x::a,lessD y z=true:=fun z hz=>by
     rcases List.mem_cons.1 hz with rfl|hz
     ·exact hyx
     ·exact lessD_trans hyx (ha.head z hz)
    have hyk:((x::a).any (keyEq y))=false:=List.any_eq_false.2 fun z hz=>by rw[zaE (hya z hz)];simp
    refine⟨List.pairwise_cons.2 ⟨fun z hz=>?_,ih.sorted⟩,fun z=>?_,?_,?_⟩
    ·rcases(ih.mem z).1 hz with h|⟨h,_⟩
     ·exact hya z h
     ·exact hb.head z h
    ·show z∈y::(mgo n (x::a) b).1↔_
     rw[List.mem_cons,ih.mem,List.mem_cons (a:=z) (b:=y)]
     constructor
     ·rintro(rfl|h|⟨h1,h2⟩)
      ·exact .inr ⟨.inl rfl,fun w hw=>zaE (hya w hw)⟩
      ·exact .inl h
      ·exact .inr ⟨.inr h1,h2⟩
     ·rintro(h|⟨h1|h1,h2⟩)
      ·exact .inr (.inl h)
      ·exact .inl h1
      ·exact .inr (.inr ⟨h1,h2⟩)
    ·show y::(mgo n (x::a) b).2.1=_
     rw[ih.fresh]
     unfold freshD
     rw[List.filter_cons,hyk]
     rfl
    ·show(mgo n (x::a) b).2.2=_
     rw[ih.agree]
     unfold zbG
     rw[Bool.eq_iff_iff,List.all_eq_true,List.all_eq_true]
     refine⟨fun h z hz=>?_,fun h z hz=>?_⟩
     ·rw[List.all_cons,h z hz,zbl (zaE (hya z hz))];rfl
     ·have:=h z hz
      rw[List.all_cons,Bool.and_eq_true] at this
      exact this.2
   ·rw[if_neg hyx]
    have hk:keyEq x y=true:=zcN (by simpa using hxy) (by simpa using hyx)
    have ih:=zco n a b (by simp at hn ⊢;omega) ha.tail hb.tail
    have hxb:∀z∈b,lessD x z=true:=fun z hz=>by
     have:=hb.head z hz
     rw[zbP] at *;rw[keyEq_iff] at hk;omega
    have hya:∀z∈a,lessD y z=true:=fun z hz=>by
     have:=ha.head z hz
     rw[zbP] at *;rw[keyEq_iff] at hk;omega
    refine⟨List.pairwise_cons.2 ⟨fun z hz=>?_,ih.sorted⟩,fun z=>?_,?_,?_⟩
    ·rcases(ih.mem z).1 hz with h|⟨h,_⟩
     ·exact ha.head z h
     ·exact hxb z h
    ·show z∈x::(mgo n a b).1↔_
     rw[List.mem_cons,ih.mem,List.mem_cons (a:=z) (b:=x),List.mem_cons (a:=z) (b:=y)]
     constructor
     ·rintro(h|h|⟨h1,h2⟩)
      ·exact .inl (.inl h)
      ·exact .inl (.inr h)
      ·refine .inr ⟨.inr h1,fun w hw=>?_⟩
       rcases List.mem_cons.1 hw with rfl|hw
       ·exact zbl (zaE (hxb z h1))
       ·exact h2 w hw
     ·rintro((h|h)|⟨rfl|h1,h2⟩)
      ·exact .inl h
      ·exact .inr (.inl h)
      ·have:=h2 x (by simp)
       rw[zay,hk] at this;cases this
      ·exact .inr (.inr ⟨h1,fun w hw=>h2 w (List.mem_cons_of_mem _ hw)⟩)
    ·show(mgo n a b).2.1=_
     rw[ih.fresh,←zdC (x:=x) (y:=y) (a:=a) hxb]
     unfold freshD
     rw[List.filter_cons,if_neg]
     simp[zay y x,hk]
    ·show(decide (x=y)&&(mgo n a b).2.2)=_
     rw[ih.agree,zdP,List.all_cons,zpt hxb,hk]
     have h1:zbG a (y::b)=zbG a b:=by
      unfold zbG
      rw[Bool.eq_iff_iff,List.all_eq_true,List.all_eq_true]
      refine⟨fun h z hz=>?_,fun h z hz=>?_⟩
      ·have:=h z hz
       rw[List.all_cons,Bool.and_eq_true] at this
       exact this.2
      ·rw[List.all_cons,h z hz,zbl (zaE (hya z hz))];rfl
     rw[h1]
     simp
theorem zcb{a b:List De}(ha:zae a)(hb:zae b):zae (zcD a b)∧∀x,x∈zcD a b↔x∈a∨(x∈b∧∀y∈a,keyEq x y=false) :=
 have h:=zco _ a b (Nat.le_refl _) ha hb
 ⟨h.sorted,h.mem⟩
def zbC(d:Dv)(e:De):De:={ e with device:=d.id,seq:=64*d.next+d.epoch }
def bareD(e:De):De:={ e with device:=0,seq:=1 }
def dvNew(id:Int):Except Int Dv:=if 0≤id∧id≤15 then .ok ⟨id,0,1,[]⟩ else .error 1
def dvAdd(d:Dv)(e:De):Except Int Dv :=
 if zah d=true∧zak (bareD e)=true then(if 4096≤d.edits.length∨17179869184≤d.next then .error 2 else .ok ⟨d.id,d.epoch,d.next+1,d.edits++[zbC d e]⟩) else .error 1
def zaC(d o:Dv):Except Int Dv :=
 if zah d=true∧zah o=true then
  (if zbG d.edits o.edits=true then(if 4096<(zcD d.edits o.edits).length then .error 2 else .ok ⟨d.id,d.epoch,nextD d.next (freshD d.edits o.edits),zcD d.edits o.edits⟩) else .error 1)
 else .error 1
def za1(d:Dv)(ep:Int):Except Int Dv :=
 if zah d=true∧0≤ep∧ep≤63 then(if ep≤d.epoch then .error 9 else .ok ⟨d.id,ep,d.next,d.edits⟩) else .error 1
/-! ### Package device: copies -/
theorem ziE(ds:List De)(v:Value)(R:RO)(h:EdsV R v ds):zaV Tryz.prog 76 [.val v] [] R fun R' bs r =>
  ∃ps:List Pl,ps.map (·.1)=ds∧(∀p∈ps,PlOK R' p)∧((ds=[]∧bs=[]∧r = .val (.slice none 0 0))∨(bs=[.dead,.row 52 13 (rowP ps)]∧r = .sl 1 ds.length)):=by
 have hdl:ds.length≤1000000000:=by obtain⟨_,_,_,_,h⟩:=h;exact h
 obtain⟨a0,cap0,e0,_,hf⟩:=h.form
 obtain⟨a,cap,ps,e1,hps,hpo,hsrc⟩:=h.src
 rw[e0] at e1
 simp only[Value.slice.injEq] at e1
 obtain⟨rfl,_,rfl⟩:=e1
 subst e0
 have hpl:ps.length=ds.length:=by rw[←hps];simp
 refine zdj mix Tryz.func76 comp76 (by simp[Tryz.ntmps76]) rfl rfl ?_;simp only[go_sem,↓reduceIte,reduceCtorEq,vc76,rs76]
 refine⟨fun hn=>?_,fun hs=>?_⟩
 ·have hds:ds=[]:=by
   cases hd:ds with
   |nil=>rfl
   |cons x r =>
    exfalso
    obtain⟨ad,_,_,_,e,_⟩:=hf 0 (by rw[hd];simp)
    rw[e] at hn;cases hn
  exact⟨ps,hps,hpo,hds⟩
 ·refine hsrc ?_
  try simp only[go_sem,↓reduceIte,Qa,Qb]
  refine vappO [] rfl rfl (by omega) ?_
  try simp only[go_sem,↓reduceIte,reduceCtorEq]
  exact⟨ps,hps,hpo,.inr ⟨rfl,rfl⟩⟩
theorem zrq(d:De)(ra:Option Addr)(rn rc:Nat)(R:RO)(h:RuleV R (.slice ra rn rc) d.rule):zaa Tryz.prog 87 [.agg ((d.ed ra rn rc).cells).toArray] R fun R' v=>∃ra' rn' rc',v = .agg ((d.ed ra' rn' rc').cells).toArray∧RuleV R' (.slice ra' rn' rc') d.rule:=by
 have hxl:d.rule.length≤1000000000:=by obtain⟨_,_,_,_,h⟩:=h;exact h
 have hcl:=zgf d.rule _ R h hxl
 have hrn:=h.len
 subst hrn
 simp only[Ed.cells,De.ed]
 refine zac mix Tryz.func87 comp87 (by simp[Tryz.ntmps87]) ?_;simp only[go_sem,↓reduceIte,Qa,vc87,rs87]
 refine znu [] [.val (.slice ra d.rule.length rc)] [] hcl rfl rfl rfl trivial (by simp) rfl rfl ?_
 rintro R1 bs r hle1 ⟨cs,h1,h2,h3,h4⟩ _
 rcases h4 with⟨hx,rfl,rfl⟩|⟨rfl,rfl⟩
 ·try simp only[go_sem,↓reduceIte,Qa,Qb,Qd,Jd,zgV]
  refine zaj Unit (fun _=>[(11,.val (.int .i64 0)),(10,.val (.int .i64 0)),(1,.loc 0 0),(2,.loc 1 0)]) (fun _=>[.box [.val (.int .i64 d.kind),.val (.int .i64 d.day),.val (.int .i64 d.device),.val (.int .i64 d.seq),.val (.int .i64 d.mv.day),.val (.bool d.mv.drop),.val (.int .i64 d.mv.toDay),.val (.int .i64 d.mv.minute),.val (.int .i64 d.mv.length),.val (.int .i64 d.minute),.val (.int .i64 d.length),.val (.slice none 0 0),.val (.string d.zone)],
   .box [.val (.int .i64 0),.val (.int .i64 0),.val (.int .i64 0),.val (.int .i64 0),.val (.int .i64 0),.val (.bool false),.val (.int .i64 0),.val (.int .i64 0),.val (.int .i64 0),.val (.int .i64 0),.val (.int .i64 0),.val (.slice none 0 0),.val (.string ⟨#[]⟩)]]) (fun _ _=>True) (fun _=>0) () ?_ ?_ trivial ?_
  ·(try simp only[go_sem,↓reduceIte,Qa,Qb])<;>(repeat' (first|rfl|trivial|constructor|(intro h;exact absurd rfl h)))
  ·try simp only[go_sem,Qb,Qe,Qf]
  rintro _ env R2 hle hE _
  (simp only[go_sem] at hE;obtain⟨e11,e10,e1,e2⟩:=hE;simp only[go_sem,↓reduceIte,Qa,Qb,e11,e10,e1,e2];dsimp only at *)
  refine⟨fun h=>absurd h (by omega),fun _=>?_⟩
  exact⟨none,0,0,rfl,by rw[hx];exact⟨[],⟨none,0,rfl,Nat.le_refl _,by simp⟩,rfl,by simp,by simp⟩⟩
 ·try simp only[go_sem,↓reduceIte,Qa,Qb,Qd,zgV]
  have hN:Nodes R1 cs d.rule:=⟨h1,h3⟩
  clear h1 h2 h3 hcl
  refine zaj (Nat×List (List Value)) (fun p=>[(11,.val (.int .i64 p.1)),(10,.val (.int .i64 d.rule.length)),(1,.loc 0 0),(2,.loc 1 0)]) (fun p=>[.box [.val (.int .i64 d.kind),.val (.int .i64 d.day),.val (.int .i64 d.device),.val (.int .i64 d.seq),.val (.int .i64 d.mv.day),.val (.bool d.mv.drop),.val (.int .i64 d.mv.toDay),.val (.int .i64 d.mv.minute),.val (.int .i64 d.mv.length),.val (.int .i64 d.minute),.val (.int .i64 d.length),.sl 3 d.rule.length,.val (.string d.zone)],
   .box [.val (.int .i64 0),.val (.int .i64 0),.val (.int .i64 0),.val (.int .i64 0),.val (.int .i64 0),.val (.bool false),.val (.int .i64 0),.val (.int .i64 0),.val (.int .i64 0),.val (.int .i64 0),.val (.int .i64 0),.val (.slice none 0 0),.val (.string ⟨#[]⟩)],.dead,.row 87 8 p.2.flatten]) (fun p R=>p.1≤d.rule.length∧Nodes R p.2 d.rule) (fun p=>d.rule.length-p.1) (0,cs) ?_ ?_ ?_ ?_
  ·(try simp only[go_sem,↓reduceIte,Qa,Qb])<;>(repeat' (first|rfl|trivial|constructor|(intro h;exact absurd rfl h)))
  ·try simp only[go_sem,Qb,Qe,Qf]
  ·exact⟨Nat.zero_le _,hN⟩
  rintro⟨i,cs⟩ env R2 hle hE ⟨hi,hN⟩
  (simp only[go_sem] at hE;obtain⟨e11,e10,e1,e2⟩:=hE;simp only[go_sem,↓reduceIte,Qa,Qb,e11,e10,e1,e2];dsimp only at *)
  have hlen:=hN.1
  have h8:=hN.len
  have hfl:=zag h8
  refine⟨fun hlt=>?_,fun hge=>?_⟩
  ·have hlt':i<d.rule.length:=by omega
   have hx:=hN.2 i _ _ (List.getElem?_eq_getElem (by omega:i<cs.length)) (List.getElem?_eq_getElem hlt')
   obtain⟨lv,hcx,hI,hIl⟩:=hx
   have hget:cs.flatten[i*8+6]?=some lv:=by
    rw[getElem?_flatten h8 i 6 _ (List.getElem?_eq_getElem (by omega:i<cs.length)) (by omega),hcx]
    rfl
   refine⟨hlt,lv,hget,vcall (zef _ lv R2 hI hIl) ?_⟩
   intro R3 u hle3 hu
   obtain⟨ua,ucap,rfl,hucap,huf⟩:=hu.form
   try simp only[go_sem,↓reduceIte,Qa,Qb,Qe,Qf,e11,e10,e1,e2]
   refine⟨hlt,by omega,_,W.in64 (by omega),(i+1,cs.set i (d.rule[i].cells (.slice ua (d.rule[i]).list.length ucap))),by dsimp only;omega,?_,by dsimp only;omega,by simp[hlen],?_⟩
   ·refine⟨rfl,?_⟩
    rw[zeV cs h8 i 6 _ _ (List.getElem?_eq_getElem (by omega:i<cs.length)) (by omega),hcx]
    rfl
   ·intro j c x hj hx
    rw[List.getElem?_set] at hj
    split at hj
    ·rename_i hij
     subst hij
     rw[if_pos (by omega)] at hj
     simp only[Option.some.injEq] at hj
     rw[List.getElem?_eq_getElem hlt'] at hx
     simp only[Option.some.injEq] at hx
     subst hj hx
     exact⟨_,rfl,hu,hIl⟩
    ·exact(hN.2 j c x hj hx).mono hle3
  ·intro b cap R3 hle3 hrow hcap hfr
   try simp only[go_sem,↓reduceIte,Qa,Qb,Qc,Qd,Qe,Qf,reduceCtorEq,e1,e2]
   exact⟨_,_,_,rfl,cs,by rw[←hlen];exact RowIn.slK hrow h8 (by omega) hcap,hlen,fun j c x hj hx=>(hN.2 j c x hj hx).mono hle3,hxl⟩
/-! ### Parts of slices -/
theorem SlK.sub{R:RO}{a:Option Addr}{cap k:Nat}{xs:List (List Value)}(h:SlK R (.slice a xs.length cap) k xs){l u:Nat}(hl:l≤u)(hu:u≤xs.length):SlK R (.slice (if cap=l then a else a.map (·.add (l*k))) (u-l) (cap-l)) k ((xs.take u).drop l):=by
 obtain⟨a',cap',e,hc,hf⟩:=h
 simp only[Value.slice.injEq] at e
 obtain⟨rfl,_,rfl⟩:=e
 have hlen:((xs.take u).drop l).length=u-l:=by simp;omega
 refine⟨_,_,by rw[hlen],by omega,fun i us hi=>?_⟩
 have hil:i<u-l:=by rw[←hlen];exact(List.getElem?_eq_some_iff.1 hi).1
 rw[List.getElem?_drop,List.getElem?_take_of_lt (by omega)] at hi
 obtain⟨h1,ad,rfl,hR⟩:=hf (l+i) us hi
 refine⟨h1,ad.add (l*k),by rw[if_neg (by omega)];rfl,fun j v hj=>?_⟩
 have:=hR j v hj
 rw[zdk] at this ⊢
 rw[zdk]
 rw[show l*k+(i*k+j)=(l+i)*k+j by rw[Nat.add_mul];omega]
 exact this
theorem EdsV.sub{R:RO}{a:Option Addr}{cap:Nat}{ds:List De}(h:EdsV R (.slice a ds.length cap) ds){l u:Nat}(hl:l≤u)(hu:u≤ds.length):EdsV R (.slice (if cap=l then a else a.map (·.add (l*13))) (u-l) (cap-l)) ((ds.take u).drop l):=by
 obtain⟨cs,h1,h2,h3,h4⟩:=h
 rw[←h2] at h1
 refine⟨_,SlK.sub h1 hl (by omega),by simp;omega,fun i c d hc hd=>?_,by simp;omega⟩
 have hil:i<u-l:=by
  have:=(List.getElem?_eq_some_iff.1 hd).1
  simp at this;omega
 rw[List.getElem?_drop,List.getElem?_take_of_lt (by omega)] at hc hd
 exact h3 _ c d hc hd
/-! ### Package device: New, with, stamp, valid -/
/-- A device, as it lies. -/
def zai(d:Dv)(v:Value):List Value:=[.int .i64 d.id,.int .i64 d.epoch,.int .i64 d.next,v]
def DvR(R:RO)(r:Value):Except Int Dv→Prop
 |.error k=>r = .tuple #[.agg #[.int .i64 0,.int .i64 0,.int .i64 0,.slice none 0 0],.int .i64 k]
 |.ok d=>∃v,r = .tuple #[.agg (zai d v).toArray,.int .i64 0]∧EdsV R v d.edits
theorem DvR.mono{R R':RO}{r:Value}{x:Except Int Dv}(h:DvR R r x)(hle:RO.le R R'):DvR R' r x:=by
 cases x with
 |error k=>exact h
 |ok d=>obtain⟨v,e,h⟩:=h;exact⟨v,e,h.mono hle⟩
theorem dNew(id:Int)(R:RO):zaa Tryz.prog 39 [.int .i64 id] R fun R' r=>DvR R' r (dvNew id):=by
 refine zac mix Tryz.func39 comp39 (by simp[Tryz.ntmps39]) ?_;simp only[go_sem,↓reduceIte,Qa,Qb,Qd,reduceCtorEq,vc39,rs39]
 unfold dvNew
 refine⟨fun h=>⟨fun h2=>?_,fun h2=>?_⟩,fun h=>?_⟩
 ·rw[if_neg (by omega)];exact rfl
 ·rw[if_pos (by omega)];exact⟨_,rfl,EdsV.nil _⟩
 ·rw[if_neg (by omega)];exact rfl
theorem zrr(d:Dv)(v:Value)(e:Ed)(hv:v.oneCell'=true)(hb:0≤d.epoch∧d.epoch≤63∧1≤d.next∧d.next≤17179869184)(R:RO) :
  zaa Tryz.prog 77 [.agg (zai d v).toArray,e.val] R fun _ r=>r=(Ed.val { e with device:=d.id,seq:=64*d.next+d.epoch }):=by
 simp only[zai,Ed.val]
 refine zac mix Tryz.func77 comp77 (by simp[Tryz.ntmps77]) ?_;simp only[go_sem,↓reduceIte,Qa,Qb,Qd,vc77,rs77]
 exact⟨_,W.in64 (by omega),_,W.in64 (by omega),rfl⟩
theorem dWith(d:Dv)(old v:Value)(ds:List De)(R:RO)(ho:old.oneCell'=true)(h:EdsV R v ds) :
  zaa Tryz.prog 49 [.agg (zai d old).toArray,v] R fun R' r=>∃v',r = .agg (zai d v').toArray∧EdsV R' v' ds:=by
 have hdl:ds.length≤1000000000:=by obtain⟨_,_,_,_,h⟩:=h;exact h
 obtain⟨a,cap,rfl,hc,hf⟩:=PlOK.of h
 simp only[zai]
 refine zac mix Tryz.func49 comp49 (by simp[Tryz.ntmps49]) ?_;simp only[go_sem,↓reduceIte,Qa,Qb,vc49,rs49]
 refine⟨by omega,by omega,?_⟩
 refine zal (Nat×List Pl) (fun x=>[(14,.val (.int .i64 x.1)),(13,.val (.int .i64 ds.length)),(12,.val (.slice a ds.length cap)),(2,.loc 0 0),(4,.loc 1 0)])
  (fun x=>[.box [.val (.int .i64 d.id),.val (.int .i64 d.epoch),.val (.int .i64 d.next),.sl 2 x.2.length],.box [.val (.int .i64 0),.val (.int .i64 0),.val (.int .i64 0),.val (.slice none 0 0)],.row 52 13 (rowP x.2)])
  (fun x R=>x.1≤ds.length∧x.2.map (·.1)=ds.take x.1∧∀p∈x.2,PlOK R p) (fun x=>ds.length-x.1) (0,[]) [] ?_ ?_ ?_ ?_
 ·(try simp only[go_sem,↓reduceIte,Qa,Qb])<;>(repeat' (first|rfl|trivial|constructor|(intro h;exact absurd rfl h)))
 ·try simp only[go_sem,Qb,Qe,Qf]
 ·exact⟨Nat.zero_le _,rfl,by simp⟩
 rintro⟨i,ps⟩ env R1 hle1 hE ⟨hi,hps,hpo⟩
 (simp only[go_sem] at hE;obtain⟨e14,e13,e12,e2,e4⟩:=hE;simp only[go_sem,↓reduceIte,Qa,Qb,e14,e13,e12,e2,e4];dsimp only at *)
 have hpl:ps.length=i:=by have:=congrArg List.length hps;simp at this;omega
 refine⟨fun hlt=>⟨hlt,?_⟩,fun hge=>?_⟩
 ·have hlt':i<ds.length:=by omega
  obtain⟨ad,p,had,hp1,hR,hpok⟩:=hf i hlt'
  have hcells:∀j u,(p.ed.cells)[j]?=some u→R1 ((ad.add (i*13)).add j) u:=fun j u hj=>hle1 _ _ (hR j u hj)
  refine vat ad had ?_
  try simp only[go_sem,↓reduceIte]
  refine zaf p.ed.cells rfl hcells ?_
  simp only[go_sem,↓reduceIte,Qa,Qb,Ed.cells,Pl.ed,De.ed,e2]
  have hC:=zrq p.1 p.2.1 p.2.2.1 p.2.2.2 R1 (hpok.mono hle1)
  simp only[Ed.cells,De.ed] at hC
  refine vcall hC ?_
  rintro R2 v hle2 ⟨ra,rn,rc,rfl,hrv⟩
  simp only[go_sem,↓reduceIte,Qa,Qb,Qc]
  refine vappO (rowP ps) rfl (by rw[zaH]) (by omega) ?_
  simp only[go_sem,↓reduceIte,Qa,Qb,Qe,Qf,e14,e13,e12,e2,e4]
  refine⟨_,W.in64 (by omega),(i+1,ps++[(p.1,ra,rn,rc)]),[0,1,5],?_⟩
  try simp only[go_sem]
  refine⟨by omega,⟨rfl,by rw[zaF];rfl⟩,by decide,by omega,?_,fun q hq=>?_⟩
  ·rw[List.map_append,hps,List.take_succ_eq_append_getElem hlt',←hp1];rfl
  ·rcases List.mem_append.1 hq with hq|hq
   ·exact(hpo q hq).mono hle2
   ·simp only[List.mem_cons,List.not_mem_nil,or_false] at hq;subst hq;exact hrv
 ·obtain rfl:i=ds.length:=by omega
  intro b cap' R2 hle2 hrow hcap hfr
  try simp only[go_sem,↓reduceIte,Qa,Qb,Qc,Qd,Qe,Qf,reduceCtorEq,e2,e4]
  rw[List.take_length] at hps
  refine⟨_,rfl,?_⟩
  rw[←hps]
  exact EdsV.row hrow hcap (fun p hp=>(hpo p hp).mono hle2) (by omega)
/-! ### Package device: valid -/
theorem zb2{d:De}(h:zak d=true):1≤d.seq∧d.seq≤1099511627776:=by
 unfold zak zbg betw at h
 simp only[Bool.and_eq_true,decide_eq_true_eq] at h
 exact h.1.1.2
theorem zb0(n:Int)(e:De):okEd n e=true↔zak e=true∧e.seq/64<n:=by simp[okEd]
theorem zn9(a b:De)(ra rb:Option Addr)(rn rc rn' rc':Nat):(0≤cmpE (a.ed ra rn rc) (b.ed rb rn' rc'))↔¬ lessD a b=true:=by
 have:=zgN (a.ed ra rn rc) (b.ed rb rn' rc')
 rw[zbP]
 simp only[De.ed] at this ⊢
 rw[←this]
 omega
theorem zjE(d:Dv)(v:Value)(R:RO)(h:EdsV R v d.edits):zaa Tryz.prog 44 [.agg (zai d v).toArray] R fun _ r=>r = .bool (zah d):=by
 have hdl:d.edits.length≤1000000000:=by obtain⟨_,_,_,_,h⟩:=h;exact h
 obtain⟨a,cap,rfl,hc,hf⟩:=PlOK.of h
 simp only[zai]
 refine zac mix Tryz.func44 comp44 (by simp[Tryz.ntmps44]) ?_;simp only[go_sem,↓reduceIte,Qa,vc44,rs44]
 have hhdr:zah d=true→0≤d.id∧d.id≤15∧0≤d.epoch∧d.epoch≤63∧1≤d.next∧d.next≤17179869184∧d.edits.length≤4096:=fun hT=>by
  unfold zah hdrOK at hT
  simp only[Bool.and_eq_true,decide_eq_true_eq] at hT
  exact hT.1.1
 have hbad:¬ (0≤d.id∧d.id≤15∧0≤d.epoch∧d.epoch≤63∧1≤d.next∧d.next≤17179869184∧d.edits.length≤4096)→Value.bool false=Value.bool (zah d):=fun hn=>by
  cases hv:zah d with
  |false=>rfl
  |true=>exact absurd (hhdr hv) hn
 refine⟨fun q1=>⟨fun q2=>⟨fun q3=>⟨fun q4=>⟨fun q5=>⟨fun q6=>⟨fun q7=>hbad (by omega),fun q7=>?_⟩,fun q6=>hbad (by omega)⟩,fun q5=>hbad (by omega)⟩,fun q4=>hbad (by omega)⟩,fun q3=>hbad (by omega)⟩,fun q2=>hbad (by omega)⟩,fun q1=>hbad (by omega)⟩
 have hall:∀(i:Nat) (hi:i<d.edits.length),¬ (okEd d.next d.edits[i]=true)→Value.bool false=Value.bool (zah d):=fun i hi hn=>by
  cases hv:zah d with
  |false=>rfl
  |true =>
   unfold zah at hv
   simp only[Bool.and_eq_true,decide_eq_true_eq,List.all_eq_true] at hv
   exact absurd (hv.1.2 _ (List.getElem_mem hi)) hn
 have hsrt:∀(i:Nat) (hi:i<d.edits.length),0<i→¬ lessD (d.edits[i-1]'(by omega)) d.edits[i]=true→Value.bool false=Value.bool (zah d):=fun i hi h0 hn=>by
  cases hv:zah d with
  |false=>rfl
  |true =>
   unfold zah at hv
   simp only[Bool.and_eq_true,decide_eq_true_eq] at hv
   exact absurd (List.pairwise_iff_getElem.1 hv.2 (i-1) i (by omega) hi (by omega)) hn
 clear hbad hhdr
 refine zaj Nat (fun i=>[(50,.val (.int .i64 i)),(49,.val (.int .i64 d.edits.length)),(48,.val (.slice a d.edits.length cap)),(1,.loc 0 0)])
  (fun _=>[.box [.val (.int .i64 d.id),.val (.int .i64 d.epoch),.val (.int .i64 d.next),.val (.slice a d.edits.length cap)]])
  (fun i _=>i≤d.edits.length∧(∀e∈d.edits.take i,okEd d.next e=true)∧zae (d.edits.take i)) (fun i=>d.edits.length-i) 0 ?_ ?_ ?_ ?_
 ·(try simp only[go_sem,↓reduceIte,Qa])<;>(repeat' (first|rfl|trivial|constructor|(intro h;exact absurd rfl h)))
 ·try simp only[go_sem,Qe,Qf]
 ·exact⟨Nat.zero_le _,by simp,List.Pairwise.nil⟩
 rintro i env R1 hle1 hE ⟨hi,hok,hso⟩
 (simp only[go_sem] at hE;obtain⟨e50,e49,e48,e1⟩:=hE;simp only[go_sem,↓reduceIte,Qa,Qb,e50,e49,e48];dsimp only at *)
 refine⟨fun hlt=>⟨hlt,?_⟩,fun hge=>?_⟩
 ·have hlt':i<d.edits.length:=by omega
  obtain⟨ad,p,had,hp1,hR,hpok⟩:=hf i hlt'
  have hcells:∀j u,(p.ed.cells)[j]?=some u→R1 ((ad.add (i*13)).add j) u:=fun j u hj=>hle1 _ _ (hR j u hj)
  have htk:=List.take_succ_eq_append_getElem hlt'
  have hA:=hall i hlt'
  rw[←hp1] at htk hA
  refine vat ad had ?_
  try simp only[go_sem,↓reduceIte]
  refine zaf p.ed.cells rfl hcells ?_
  simp only[go_sem,↓reduceIte,Qa,Qb,Ed.cells,Pl.ed,De.ed]
  refine vcall (zlg p.ed R1) ?_
  rintro R2 v hle2 rfl
  rw[zc6 p hpok.len]
  simp only[go_sem,↓reduceIte,Qa,Qe,Qf,e50,e49,e48,e1]
  refine⟨fun hv=>⟨by omega,?_⟩,fun hv=>hA (by rw[zb0];simp[hv])⟩
  have hsq:=zb2 hv
  have htd:p.1.seq.tdiv 64=p.1.seq/64:=zaN (by omega) (by omega)
  refine⟨_,W.in64 (by rw[htd];omega),?_⟩
  rw[htd]
  have hnew:∀R',RO.le R1 R'→p.1.seq/64<d.next→(0<i→lessD (d.edits[i-1]'(by omega)) p.1=true)→(∀e∈d.edits.take (i+1),okEd d.next e=true)∧zae (d.edits.take (i+1)):=fun R' _ hn hl=>by
   rw[htk]
   refine⟨fun e he=>?_,List.pairwise_append.2 ⟨hso,List.pairwise_singleton _ _,fun x hx y hy=>?_⟩⟩
   ·rcases List.mem_append.1 he with he|he
    ·exact hok e he
    ·simp only[List.mem_cons,List.not_mem_nil,or_false] at he;subst he
     rw[zb0];exact⟨hv,hn⟩
   ·simp only[List.mem_cons,List.not_mem_nil,or_false] at hy;subst hy
    obtain⟨j,hj,rfl⟩:=List.mem_take_iff_getElem.1 hx
    by_cases hji:j=i-1
    ·subst hji;exact hl (by omega)
    ·have h1:=List.pairwise_iff_getElem.1 hso j (i-1) (by simp;omega) (by simp;omega) (by omega)
     rw[List.getElem_take,List.getElem_take] at h1
     exact lessD_trans h1 (hl (by omega))
  refine⟨fun hn=>⟨fun hpos=>?_,fun hz=>?_⟩,fun hn=>hA (by rw[zb0];omega)⟩
  ·obtain⟨ad',q,had',hq1,hR',hqok⟩:=hf (i-1) (by omega)
   have hti:((i:Int)-1).toNat=i-1:=by omega
   have hS:=hsrt i hlt' (by omega)
   rw[←hp1,←hq1] at hS
   refine⟨_,W.in64 (by omega),by omega,by omega,?_⟩
   rw[hti]
   refine vat ad' had' ?_
   try simp only[go_sem,↓reduceIte,Qa]
   refine zaf q.ed.cells rfl (fun j u hj=>hle2 _ _ (hle1 _ _ (hR' j u hj))) ?_
   simp only[go_sem,↓reduceIte,Qa,Qb,Ed.cells,Pl.ed,De.ed]
   refine vcall (zps q.ed p.ed R2) ?_
   rintro R3 v hle3 rfl
   simp only[go_sem,↓reduceIte,Qa,Qe,Qf,e50,e49,e48,e1]
   have hcg:(0≤cmpE q.ed p.ed)↔¬ lessD q.1 p.1=true:=zn9 _ _ _ _ _ _ _ _
   refine⟨fun h0=>hS (hcg.1 h0),fun h0=>?_⟩
   have hl:lessD q.1 p.1=true:=by
    cases hq:lessD q.1 p.1 with
    |true=>rfl
    |false=>exact absurd (hcg.2 (by rw[hq];simp)) h0
   refine⟨_,W.in64 (by omega),i+1,by omega,by constructor,by omega,?_⟩
   exact hnew R3 (RO.le_trans hle2 hle3) (by omega) (fun _=>by rw[←hq1];exact hl)
  ·obtain rfl:i=0:=by omega
   refine⟨_,W.in64 (by omega),1,by omega,by constructor,by omega,?_⟩
   exact hnew R2 hle2 (by omega) (fun h=>absurd h (by omega))
 ·obtain rfl:i=d.edits.length:=by omega
  rw[List.take_length] at hok hso
  have:zah d=true:=by
   unfold zah hdrOK
   simp only[Bool.and_eq_true,decide_eq_true_eq,List.all_eq_true]
   exact⟨⟨by omega,hok⟩,hso⟩
  rw[this]
/-! ### Package device: Add, Restore -/
theorem EdsV.one{R:RO}{v:Value}{ds:List De}(h:EdsV R v ds):v.oneCell'=true:=by
 obtain⟨_,_,rfl,_⟩:=h.form
 rfl
theorem zaK{d:Dv}(h:zah d=true):0≤d.id∧d.id≤15∧0≤d.epoch∧d.epoch≤63∧1≤d.next∧d.next≤17179869184∧d.edits.length≤4096:=by
 unfold zah hdrOK at h
 simp only[Bool.and_eq_true,decide_eq_true_eq] at h
 exact h.1.1
theorem dAdd(d:Dv)(v:Value)(e:De)(ra:Option Addr)(rn rc:Nat)(R:RO)(h:EdsV R v d.edits)(he:RuleV R (.slice ra rn rc) e.rule) :
  zaa Tryz.prog 40 [.agg (zai d v).toArray,.agg ((e.ed ra rn rc).cells).toArray] R fun R' r=>DvR R' r (dvAdd d e):=by
 have hV:=zjE d v
 have h0:=h
 have hrn:=he.len
 subst hrn
 have hCl:=ziE d.edits v
 have hSt:=zrr d v
 have hdl:d.edits.length≤1000000000:=by obtain⟨_,_,_,_,h⟩:=h;exact h
 obtain⟨a,cap,rfl,hc,hf⟩:=h.form
 simp only[zai] at hV hSt ⊢
 simp only[Ed.cells,De.ed]
 refine zac mix Tryz.func40 comp40 (by simp[Tryz.ntmps40]) ?_;simp only[go_sem,↓reduceIte,Qa,Qb,Qd,vc40,rs40]
 refine vcall (hV R h0) ?_
 rintro R1 r hle1 rfl
 try simp only[go_sem,↓reduceIte,Qa,Qb]
 unfold dvAdd
 refine⟨fun hv=>?_,fun hv=>?_⟩
 ·refine vcall (zlg ⟨e.kind,e.day,0,1,e.mv,e.minute,e.length,ra,e.rule.length,rc,e.zone⟩ R1) ?_
  rintro R2 r hle2 rfl
  rw[show zbg ⟨e.kind,e.day,0,1,e.mv,e.minute,e.length,ra,e.rule.length,rc,e.zone⟩=zak (bareD e) from zc6 (bareD e,ra,e.rule.length,rc) rfl]
  try simp only[go_sem,↓reduceIte,Qa,Qb]
  refine⟨fun hb=>?_,fun hb=>⟨fun hl=>⟨fun hn=>?_,fun hn=>?_⟩,fun hl=>?_⟩⟩
  ·rw[if_neg (by rw[hb];simp)]
   exact rfl
  ·rw[if_pos ⟨hv,hb⟩,if_pos (.inr hn)]
   exact rfl
  ·have hh:=zaK hv
   rw[if_pos ⟨hv,hb⟩,if_neg (by omega)]
   refine zpH (hCl R2 ((h0.mono hle1).mono hle2)) rfl ?_
   rintro R3 bs r hle3 ⟨ps,hps,hpo,hbs⟩
   have hpl:ps.length=d.edits.length:=by rw[←hps];simp
   have hfin:∀R' w,RO.le R3 R'→EdsV R' w (d.edits++[zbC d e])→DvR R' (.tuple #[.agg #[.int .i64 d.id,.int .i64 d.epoch,.int .i64 (d.next+1),w],.int .i64 0]) (.ok ⟨d.id,d.epoch,d.next+1,d.edits++[zbC d e]⟩):=fun R' w _ hw=>⟨w,rfl,hw⟩
   have hW:=fun R' old w ds ho hw=>dWith ⟨d.id,d.epoch,d.next+1,[]⟩ old w ds R' ho hw
   simp only[zai] at hW
   obtain⟨q,hq⟩:∃q:Pl,q=(zbC d e,ra,e.rule.length,rc):=⟨_,rfl⟩
   have hqok:∀R',RO.le R R'→PlOK R' q:=fun R' hle=>by rw[hq];exact he.mono hle
   have hq1:q.1=zbC d e:=by rw[hq]
   have hqc:q.ed.cells=[.int .i64 e.kind,.int .i64 e.day,.int .i64 d.id,.int .i64 (64*d.next+d.epoch),.int .i64 e.mv.day,.bool e.mv.drop,.int .i64 e.mv.toDay,.int .i64 e.mv.minute,.int .i64 e.mv.length,.int .i64 e.minute,.int .i64 e.length,.slice ra e.rule.length rc,.string e.zone]:=by rw[hq];rfl
   have hrowE:∀R' b cap,RO.le R3 R'→RowIn R' b (rowP (ps++[q]))→(rowP (ps++[q])).length≤cap*13→EdsV R' (.slice (some ⟨b,0,none⟩) (d.edits.length+1) cap) (d.edits++[zbC d e]):=fun R' b cap hle hrow hcap=>by
    have h1:=EdsV.row hrow hcap (fun p hp=>by
     rcases List.mem_append.1 hp with hp|hp
     ·exact(hpo p hp).mono hle
     ·simp only[List.mem_cons,List.not_mem_nil,or_false] at hp;subst hp
      exact hqok R' (RO.le_trans hle1 (RO.le_trans hle2 (RO.le_trans hle3 hle)))) (by simp;omega)
    rw[List.map_append,hps,List.map_cons,List.map_nil,hq1,List.length_append,hpl] at h1
    exact h1
   have hrg:List.range' 4 2=[4,5]:=rfl
   rcases hbs with⟨hnil,rfl,rfl⟩|⟨rfl,rfl⟩
   ·have hp0:ps=[]:=List.eq_nil_of_length_eq_zero (by rw[hpl,hnil];rfl)
    try simp only[go_sem,↓reduceIte,Qa,Qb]
    refine vcall (hSt ⟨e.kind,e.day,0,1,e.mv,e.minute,e.length,ra,e.rule.length,rc,e.zone⟩ rfl ⟨by omega,by omega,by omega,by omega⟩ R3) ?_
    rintro R4 r hle4 rfl
    simp only[Ed.val]
    try simp only[go_sem,↓reduceIte,Qa,Qb,Qc,Qd,reduceCtorEq]
    refine⟨_,W.in64 (by omega),?_⟩
    refine zez ?_
    try simp only[go_sem,↓reduceIte,Qa,Qb]
    intro b cap' R5 hle5 hrow hcap' hfr
    have hE:=hrowE R5 b cap' (RO.le_trans hle4 hle5) (by rw[hp0];simp only[List.nil_append];rw[show rowP [q]=q.ed.cells from by simp[rowP],hqc];exact hrow) (by rw[hp0];simp only[List.nil_append];rw[show rowP [q]=q.ed.cells from by simp[rowP],hqc];exact hcap')
    rw[show d.edits.length+1=1 by rw[hnil];rfl] at hE
    refine vcall (hW R5 _ _ _ rfl hE) ?_
    rintro R6 w hle6 ⟨v',rfl,hv'⟩
    have hv1:=hv'.one
    obtain⟨va,vc,rfl,_⟩:=hv'.form
    try simp only[go_sem,↓reduceIte,Qa,Qb]
    rw[List.length_append] at hv'
    exact hfin R6 _ (RO.le_trans hle4 (RO.le_trans hle5 hle6)) hv'
   ·try simp only[go_sem,↓reduceIte,Qa,Qb]
    refine vcall (hSt ⟨e.kind,e.day,0,1,e.mv,e.minute,e.length,ra,e.rule.length,rc,e.zone⟩ rfl ⟨by omega,by omega,by omega,by omega⟩ R3) ?_
    rintro R4 r hle4 rfl
    simp only[Ed.val]
    try simp only[go_sem,↓reduceIte,Qa,Qb,Qc]
    refine vappO (rowP ps) rfl (by rw[zaH,hpl]) (by omega) ?_
    try simp only[go_sem,↓reduceIte,Qa,Qb,Qd,hrg,renB]
    refine⟨_,W.in64 (by omega),?_⟩
    refine zez ?_
    try simp only[go_sem,↓reduceIte,Qa,Qb]
    intro b cap' R5 hle5 hrow hcap' hfr
    refine vcall (hW R5 _ _ _ rfl (hrowE R5 b cap' (RO.le_trans hle4 hle5) (by rw[zaF,hqc];exact hrow) (by rw[zaF,hqc,List.length_append];exact hcap'))) ?_
    rintro R6 w hle6 ⟨v',rfl,hv'⟩
    have hv1:=hv'.one
    obtain⟨va,vc,rfl,_⟩:=hv'.form
    try simp only[go_sem,↓reduceIte,Qa,Qb]
    rw[List.length_append] at hv'
    exact hfin R6 _ (RO.le_trans hle4 (RO.le_trans hle5 hle6)) hv'
  ·rw[if_pos ⟨hv,hb⟩,if_pos (.inl (by omega))]
   exact rfl
 ·rw[if_neg (by rw[hv];simp)]
  exact rfl
attribute [local go_sem low] ziv
/-! ### Package device: merge -/
theorem zqi:zaB Tryz.prog 46=true:=by kernel_rfl
theorem zqj:zaB Tryz.prog 47=true:=by kernel_rfl
theorem zrs(x y:De)(ra rb:Option Addr)(rn rc rn' rc':Nat)(ok:Bool)(R:RO)(hx:RuleV R (.slice ra rn rc) x.rule)(hy:RuleV R (.slice rb rn' rc') y.rule)(hk:keyEq x y=true) :
  zaV Tryz.prog 47 [.val (.agg ((x.ed ra rn rc).cells).toArray),.val (.agg ((y.ed rb rn' rc').cells).toArray),.loc 0 0] [.box [.val (.bool ok)]] R fun R' bs _=>∃b1 b2,bs=[.box [.val (.bool (ok&&decide (x=y)))],b1,b2]:=by
 simp only[Ed.cells,De.ed]
 have hS:=fun R' (hle:RO.le R R')=>dSame x y ((x.ed ra rn rc).cells) ((y.ed rb rn' rc').cells) R' ⟨ra,rn,rc,rfl,hx.mono hle⟩ ⟨rb,rn',rc',rfl,hy.mono hle⟩ hk
 simp only[Ed.cells,De.ed] at hS
 refine zdj mix Tryz.func47 comp47 (by simp[Tryz.ntmps47]) rfl rfl ?_;simp only[go_sem,↓reduceIte,Qa,Qb,vc47,rs47]
 refine⟨fun hok=>?_,fun hok=>?_⟩
 ·refine vcall (hS R (RO.le_refl _)) ?_
  rintro R1 r hle1 rfl
  rw[hok]
  try simp only[go_sem,↓reduceIte,Qa]
  exact⟨_,_,rfl,rfl,rfl⟩
 ·rw[hok]
  exact⟨_,_,rfl,rfl,rfl⟩
def MrgV(R:RO)(r:Value)(all fresh:List De):Prop:=∃u v,r = .tuple #[u,v]∧EdsV R u all∧EdsV R v fresh
theorem EdsV.tail{R:RO}{a:Option Addr}{c:Nat}{x:De}{l:List De}(h:EdsV R (.slice a (l.length+1) c) (x::l)):EdsV R (.slice (if c=1 then a else a.map (·.add (1*13))) (l.length+1-1) (c-1)) l:=by
 have:=EdsV.sub (l:=1) (u:=l.length+1) (ds:=x::l) h (by omega) (by simp)
 simpa using this
theorem zrt{x:De}{xs ys:List De}{k:Nat}(h:ys=[]∨∃y ys2,ys=y::ys2∧lessD x y=true):mgo (k+1) (x::xs) ys=(x::(mgo k xs ys).1,(mgo k xs ys).2.1,(mgo k xs ys).2.2):=by
 rcases h with rfl|⟨y,ys2,rfl,h⟩
 ·rfl
 ·rw[mgo,if_pos h]
theorem zru{y:De}{xs ys:List De}{k:Nat}(h:xs=[]∨∃x xs2,xs=x::xs2∧lessD x y=false∧lessD y x=true):mgo (k+1) xs (y::ys)=(y::(mgo k xs ys).1,y::(mgo k xs ys).2.1,(mgo k xs ys).2.2):=by
 rcases h with rfl|⟨x,xs2,rfl,h1,h2⟩
 ·rfl
 ·rw[mgo,if_neg (by rw[h1];simp),if_pos h2]
theorem zrv{x y:De}{xs ys:List De}{k:Nat}(h1:lessD x y=false)(h2:lessD y x=false):mgo (k+1) (x::xs) (y::ys)=(x::(mgo k xs ys).1,(mgo k xs ys).2.1,decide (x=y)&&(mgo k xs ys).2.2):=by
 rw[mgo,if_neg (by rw[h1];simp),if_neg (by rw[h2];simp)]
theorem zkm(p q:Pl):(cmpE p.ed q.ed<0∧lessD p.1 q.1=true)∨(0<cmpE p.ed q.ed∧lessD p.1 q.1=false∧lessD q.1 p.1=true)∨(cmpE p.ed q.ed=0∧lessD p.1 q.1=false∧lessD q.1 p.1=false):=by
 have hs:p.ed.seq=p.1.seq∧p.ed.device=p.1.device∧q.ed.seq=q.1.seq∧q.ed.device=q.1.device:=⟨rfl,rfl,rfl,rfl⟩
 obtain⟨h1,h2,h3,h4⟩:=hs
 simp only[zbP,zbH]
 unfold cmpE cmpI
 rw[h1,h2,h3,h4]
 repeat' split
 all_goals omega
set_option maxHeartbeats 8000000 in
theorem zlX (xs ys : List De) (va vb : Value) (R : RO) (ha : EdsV R va xs) (hb : EdsV R vb ys) (hla : xs.length ≤ 4096) (hlb : ys.length ≤ 4096) :
    zaV Tryz.prog 45 [.val va,.val vb,.val (.func (.func 46) #[] #[]),.fn 47 [.l 0 0]] [.box [.val (.bool true)]] R fun R' bs r =>
      ∃rest w,bs = .box [.val (.bool (mgo (xs.length+ys.length) xs ys).2.2)]::rest∧r = .val w∧MrgV R' w (mgo (xs.length+ys.length) xs ys).1 (mgo (xs.length+ys.length) xs ys).2.1:=by
  obtain⟨a0,c0,rfl,_⟩:=ha.form
  obtain⟨b0,d0,rfl,_⟩:=hb.form
  obtain⟨A,hA⟩:∃A,A=(mgo (xs.length+ys.length) xs ys).1:=⟨_,rfl⟩
  obtain⟨F,hF⟩:∃F,F=(mgo (xs.length+ys.length) xs ys).2.1:=⟨_,rfl⟩
  obtain⟨G,hG⟩:∃G,G=(mgo (xs.length+ys.length) xs ys).2.2:=⟨_,rfl⟩
  rw[←hA,←hF,←hG]
  refine zdj mix Tryz.func45 comp45 (by simp[Tryz.ntmps45]) rfl rfl ?_;simp only[go_sem,vc45,rs45]
  refine zal ((Option Addr×Nat×List De)×(Option Addr×Nat×List De)×List Pl×List Pl×Bool) (fun x=>[(0,.val (.slice x.1.1 x.1.2.2.length x.1.2.1)),(1,.val (.slice x.2.1.1 x.2.1.2.2.length x.2.1.2.1)),(2,.val (.func (.func 46) #[] #[])),(3,.fn 47 [.l 0 0]),(8,gs 1 x.2.2.1.length),(9,gs 2 x.2.2.2.1.length)])
    (fun x=>[.box [.val (.bool x.2.2.2.2)],gb 52 13 (rowP x.2.2.1),gb 52 13 (rowP x.2.2.2.1)])
    (fun x R=>EdsV R (.slice x.1.1 x.1.2.2.length x.1.2.1) x.1.2.2∧EdsV R (.slice x.2.1.1 x.2.1.2.2.length x.2.1.2.1) x.2.1.2.2∧(∀p∈x.2.2.1,PlOK R p)∧(∀p∈x.2.2.2.1,PlOK R p)∧x.2.2.1.length+x.1.2.2.length+x.2.1.2.2.length≤8192∧x.2.2.2.1.length+x.2.1.2.2.length≤4096 ∧
      ∃n,x.1.2.2.length+x.2.1.2.2.length≤n∧x.2.2.1.map (·.1)++(mgo n x.1.2.2 x.2.1.2.2).1=A∧x.2.2.2.1.map (·.1)++(mgo n x.1.2.2 x.2.1.2.2).2.1=F∧(x.2.2.2.2&&(mgo n x.1.2.2 x.2.1.2.2).2.2)=G) (fun x=>x.1.2.2.length+x.2.1.2.2.length) ((a0,c0,xs),(b0,d0,ys),[],[],true) [] ?_ ?_ ?_ ?_
  · (try simp only[go_sem,↓reduceIte,Qa,Qb,reduceCtorEq])<;>(repeat' (first|rfl|trivial|constructor|(intro h;exact absurd rfl h)))
  · rfl
  · exact⟨ha,hb,by simp,by simp,by simp;omega,by simp;omega,_,Nat.le_refl _,by rw[hA];rfl,by rw[hF];rfl,by rw[hG];simp⟩
  rintro⟨⟨a,c,xs⟩,⟨b,d,ys⟩,ps,qs,ok⟩ env R1 hle1 hE ⟨ha1,hb1,hpo,hqo,hl1,hl2,n,hn,hgA,hgF,hgG⟩
  clear ha hb hA hF hG hla hlb
  dsimp only at ha1 hb1 hpo hqo hl1 hl2 hn hgA hgF hgG
  simp only[go_sem] at hE
  obtain⟨e0,e1,e2,e3,e8,e9⟩:=hE
  rw[zbU]
  by_cases hend:xs.length=0∧ys.length=0
  · obtain⟨h1,h2⟩:=hend
    obtain rfl:xs=[]:=List.eq_nil_of_length_eq_zero h1
    obtain rfl:ys=[]:=List.eq_nil_of_length_eq_zero h2
    have hm:mgo n [] []=([],[],true):=by cases n<;>rfl
    rw[hm] at hgA hgF hgG
    simp only[List.append_nil,Bool.and_true] at hgA hgF hgG
    subst hgA hgF hgG
    have hgP:ps.length≠0→gb 52 13 (rowP ps) = .row 52 13 (rowP ps):=fun h1=>gb_ne (fun e=>h1 (by have:=zaH ps;rw[e] at this;simp at this;omega))
    have hgQ:qs.length≠0→gb 52 13 (rowP qs) = .row 52 13 (rowP qs):=fun h1=>gb_ne (fun e=>h1 (by have:=zaH qs;rw[e] at this;simp at this;omega))
    have hE0:∀(R':RO) (l:List Pl),l.length=0→EdsV R' (.slice none 0 0) (l.map (·.1)):=fun R' l h=>by rw[List.eq_nil_of_length_eq_zero h];exact EdsV.nil R'
    by_cases h1:ps.length=0
    · rw[h1] at e8
      by_cases h2:qs.length=0
      · rw[h2] at e9
        try simp only[go_sem,↓reduceIte,Qa,Qb,Jb,Jd,e0,e1,e8,e9]
        exact⟨_,_,⟨rfl,rfl⟩,rfl,_,_,rfl,hE0 _ _ h1,hE0 _ _ h2⟩
      · rw[zaI h2] at e9
        rw[hgQ h2]
        try simp only[go_sem,↓reduceIte,Qa,Qb,Jb,Jd,e0,e1,e8,e9]
        intro b1 cap1 R2 hle2 hrow hcap hfr
        try simp only[go_sem,↓reduceIte,Qa,Qb,Qc,Qd,Qe,Qf,reduceCtorEq,Ja,Jb,Jc,Jd,Je,Jf,e0,e1,e2,e3,e8,e9]
        exact⟨_,_,⟨rfl,rfl⟩,rfl,_,_,rfl,hE0 _ _ h1,EdsV.row hrow hcap (fun p hp=>(hqo p hp).mono hle2) (by omega)⟩
    · rw[zaI h1] at e8
      rw[hgP h1]
      by_cases h2:qs.length=0
      · rw[h2] at e9
        try simp only[go_sem,↓reduceIte,Qa,Qb,Jb,Jd,e0,e1,e8,e9]
        intro b1 cap1 R2 hle2 hrow hcap hfr
        try simp only[go_sem,↓reduceIte,Qa,Qb,Qc,Qd,Qe,Qf,reduceCtorEq,Ja,Jb,Jc,Jd,Je,Jf,e0,e1,e2,e3,e8,e9]
        exact⟨_,_,⟨rfl,rfl⟩,rfl,_,_,rfl,EdsV.row hrow hcap (fun p hp=>(hpo p hp).mono hle2) (by omega),hE0 _ _ h2⟩
      · rw[zaI h2] at e9
        rw[hgQ h2]
        try simp only[go_sem,↓reduceIte,Qa,Qb,Jb,Jd,e0,e1,e8,e9]
        intro b1 cap1 R2 hle2 hrow hcap hfr
        try simp only[go_sem,↓reduceIte,Qa,Qb,Qc,Qd,Qe,Qf,reduceCtorEq,Ja,Jb,Jc,Jd,Je,Jf,e0,e1,e2,e3,e8,e9]
        intro b2 cap2 R3 hle3 hrow2 hcap2 hfr2
        try simp only[go_sem,↓reduceIte,Qa,Qb,Qc,Qd,Qe,Qf,reduceCtorEq,Ja,Jb,Jc,Jd,Je,Jf,e0,e1,e2,e3,e8,e9]
        exact⟨_,_,⟨rfl,rfl⟩,rfl,_,_,rfl,(EdsV.row hrow hcap (fun p hp=>(hpo p hp).mono hle2) (by omega)).mono hle3,EdsV.row hrow2 hcap2 (fun p hp=>(hqo p hp).mono (RO.le_trans hle2 hle3)) (by omega)⟩
  refine cutT (fun s'=>∃env,s'=⟨env,[.box [.val (.bool ok)],gb 52 13 (rowP ps),gb 52 13 (rowP qs)],R1⟩∧env 0 = .val (.slice a xs.length c)∧env 1 = .val (.slice b ys.length d)∧env 2 = .val (.func (.func 46) #[] #[])∧env 3 = .fn 47 [.l 0 0]∧env 8=gs 1 ps.length∧env 9=gs 2 qs.length) ?_ ?_
  · try simp only[go_sem,↓reduceIte,Qa,e0,e1,e8,e9]
    refine⟨fun h0=>⟨fun h1=>⟨_,rfl,e0,e1,e2,e3,e8,e9⟩,fun h1=>absurd ⟨by omega,by omega⟩ hend⟩,fun h0=>⟨_,rfl,e0,e1,e2,e3,e8,e9⟩⟩
  rintro s' ⟨env,rfl,f0,f1,f2,f3,f8,f9⟩
  clear e0 e1 e2 e3 e8 e9
  rw[zfT,zbU]
  refine cutT (fun s'=>∃env,s'=⟨env,[.box [.val (.bool ok)],gb 52 13 (rowP ps),gb 52 13 (rowP qs)],R1⟩∧env 0 = .val (.slice a xs.length c)∧env 1 = .val (.slice b ys.length d)∧env 2 = .val (.func (.func 46) #[] #[])∧env 3 = .fn 47 [.l 0 0]∧env 8=gs 1 ps.length∧env 9=gs 2 qs.length) ?_ ?_
  · try simp only[go_sem,Qb]
    exact⟨_,rfl,f0,f1,f2,f3,f8,f9⟩
  rintro s' ⟨env,rfl,f0,f1,f2,f3,f8,f9⟩
  rw[zbU]
  refine cutT (fun s'=>∃env R2 k,s'=⟨env,[.box [.val (.bool ok)],gb 52 13 (rowP ps),gb 52 13 (rowP qs)],R2⟩∧RO.le R1 R2∧env 0 = .val (.slice a xs.length c)∧env 1 = .val (.slice b ys.length d)∧env 2 = .val (.func (.func 46) #[] #[])∧env 3 = .fn 47 [.l 0 0]∧env 8=gs 1 ps.length∧env 9=gs 2 qs.length∧env 10 = .val (.int .i64 k) ∧
    ((k<0∧∃x xs2,xs=x::xs2∧(ys=[]∨∃y ys2,ys=y::ys2∧lessD x y=true))∨(0<k∧∃y ys2,ys=y::ys2∧(xs=[]∨∃x xs2,xs=x::xs2∧lessD x y=false∧lessD y x=true)) ∨
      (k=0∧∃x xs2 y ys2,xs=x::xs2∧ys=y::ys2∧lessD x y=false∧lessD y x=false))) ?_ ?_
  · by_cases hx:xs.length=0
    · try simp only[go_sem,↓reduceIte,Qb,f0,eq_true (show(xs.length:Int)=0 by omega)]
      obtain⟨y,ys2,hy⟩:=List.exists_cons_of_length_pos (show 0<ys.length by omega)
      exact⟨_,R1,1,rfl,RO.le_refl _,f0,f1,f2,f3,f8,f9,rfl,.inr (.inl ⟨by omega,y,ys2,hy,.inl (List.eq_nil_of_length_eq_zero hx)⟩)⟩
    obtain⟨x,xs2,hxe⟩:=List.exists_cons_of_length_pos (show 0<xs.length by omega)
    by_cases hy:ys.length=0
    · try simp only[go_sem,↓reduceIte,Qa,Qb,f0,f1,eq_false (show ¬ (xs.length:Int)=0 by omega),eq_true (show(ys.length:Int)=0 by omega)]
      exact⟨_,R1,-1,rfl,RO.le_refl _,f0,f1,f2,f3,f8,f9,rfl,.inl ⟨by omega,x,xs2,hxe,.inl (List.eq_nil_of_length_eq_zero hy)⟩⟩
    obtain⟨y,ys2,hye⟩:=List.exists_cons_of_length_pos (show 0<ys.length by omega)
    obtain⟨_,_,ea,_,hfa⟩:=PlOK.of ha1
    simp only[Value.slice.injEq] at ea
    obtain⟨rfl,_,rfl⟩:=ea
    obtain⟨_,_,eb,_,hfb⟩:=PlOK.of hb1
    simp only[Value.slice.injEq] at eb
    obtain⟨rfl,_,rfl⟩:=eb
    obtain⟨ad,p,had,hp1,hRp,hpok⟩:=hfa 0 (by omega)
    obtain⟨bd,q,hbd,hq1,hRq,hqok⟩:=hfb 0 (by omega)
    rw[Nat.zero_mul] at hRp hRq
    try simp only[go_sem,↓reduceIte,Qa,Qb,reduceCtorEq,Ja,Jc,f0,f1,f2,eq_false (show ¬ (xs.length:Int)=0 by omega),eq_false (show ¬ (ys.length:Int)=0 by omega)]
    refine⟨by omega,vat ad had ?_⟩
    try simp only[go_sem,↓reduceIte]
    refine zaf p.ed.cells rfl hRp ?_
    try simp only[go_sem,↓reduceIte,Qa,Ja,Jc,f1,Ed.cells,Pl.ed,De.ed]
    refine⟨by omega,vat bd hbd ?_⟩
    try simp only[go_sem,↓reduceIte]
    refine zaf q.ed.cells rfl hRq ?_
    try simp only[go_sem,↓reduceIte,Qa,Ed.cells,Pl.ed,De.ed]
    refine⟨zqi,vcall (zps p.ed q.ed R1) ?_⟩
    rintro R2 v hle2 rfl
    try simp only[go_sem,↓reduceIte]
    have hpx:p.1=x:=by rw[hp1];simp[hxe]
    have hqy:q.1=y:=by rw[hq1];simp[hye]
    refine⟨_,R2,cmpE p.ed q.ed,rfl,hle2,f0,f1,f2,f3,f8,f9,rfl,?_⟩
    rcases zkm p q with⟨h1,h2⟩|⟨h1,h2,h3⟩|⟨h1,h2,h3⟩
    · exact .inl ⟨h1,x,xs2,hxe,.inr ⟨y,ys2,hye,by rw[←hpx,←hqy];exact h2⟩⟩
    · exact .inr (.inl ⟨h1,y,ys2,hye,.inr ⟨x,xs2,hxe,by rw[←hpx,←hqy];exact h2,by rw[←hpx,←hqy];exact h3⟩⟩)
    · exact .inr (.inr ⟨h1,x,xs2,y,ys2,hxe,hye,by rw[←hpx,←hqy];exact h2,by rw[←hpx,←hqy];exact h3⟩)
  rintro s' ⟨env,R2,k,rfl,hle2,f0,f1,f2,f3,f8,f9,f10,hk⟩
  obtain⟨n,rfl⟩:∃n',n=n'+1:=⟨n-1,by omega⟩
  have hca:xs.length≤c:=by
    obtain⟨_,_,e,h,_⟩:=ha1.form
    simp only[Value.slice.injEq] at e
    omega
  have hcb:ys.length≤d:=by
    obtain⟨_,_,e,h,_⟩:=hb1.form
    simp only[Value.slice.injEq] at e
    omega
  have hpo2:∀p∈ps,PlOK R2 p:=fun p hp=>(hpo p hp).mono hle2
  have hqo2:∀p∈qs,PlOK R2 p:=fun p hp=>(hqo p hp).mono hle2
  have hsnoc:∀(l:List Pl) (p:Pl) (R':RO),(∀q∈l,PlOK R' q)→PlOK R' p→∀q∈l++[p],PlOK R' q:=fun l p R' hl hp q hq=>by
    rcases List.mem_append.1 hq with hq|hq
    · exact hl q hq
    · simp only[List.mem_cons,List.not_mem_nil,or_false] at hq;subst hq;exact hp
  rcases hk with⟨hk,x,xs2,rfl,hy⟩|⟨hk,y,ys2,rfl,hx⟩|⟨hk,x,xs2,y,ys2,rfl,rfl,hl1,hl2⟩
  · rw[zrt hy] at hgA hgF hgG
    obtain⟨_,_,ea,_,hfa⟩:=PlOK.of ha1
    simp only[Value.slice.injEq] at ea
    obtain⟨rfl,_,rfl⟩:=ea
    obtain⟨ad,p,had,hp1,hRp,hpok⟩:=hfa 0 (by simp)
    rw[Nat.zero_mul] at hRp
    simp only[List.getElem_cons_zero] at hp1
    simp only[List.length_cons] at f0 ha1 hca hl1 hn hfa ⊢
    try simp only[go_sem,↓reduceIte,Qa,Qb,reduceCtorEq,Ja,Jc,f0,f8,f10,eq_true hk]
    refine⟨by omega,vat ad had ?_⟩
    try simp only[go_sem,↓reduceIte]
    refine zaf p.ed.cells rfl (fun j u hj=>hle2 _ _ (hRp j u hj)) ?_
    try simp only[go_sem,↓reduceIte,Qa,Qb,Qc,reduceCtorEq,f0,Ed.cells,Pl.ed,De.ed]
    refine⟨1,xs2.length+1,rfl,rfl,by omega,by omega,?_⟩
    try simp only[go_sem,Qb,Qc]
    refine vgrow (rowP ps) (fun h0=>by first|rfl|(rw[gb_ne h0];rfl)) (fun h0=>by rw[h0,zbv];rfl) (by rw[zaH]) (by omega) (by omega) (by omega) ?_
    try simp only[go_sem,↓reduceIte,Qa,Qb,Qd,Qe,Qf,reduceCtorEq,f1,f2,f3,f9]
    have hta:=(EdsV.tail ha1).mono hle2
    refine⟨((if c=1 then a else a.map (·.add (1*13)),c-1,xs2),(b,d,ys),ps++[p],qs,ok),[0,4,2],?_⟩
    try simp only[go_sem,Qb,Qc]
    exact⟨by omega,⟨⟨rfl,rfl⟩,fun _=>by rw[zaF];rfl,fun h=>gb_ne h⟩,⟨by decide,rfl⟩,hta,hb1.mono hle2,hsnoc ps p R2 hpo2 (hpok.mono hle2),hqo2,by omega,by omega,n,by omega,by rw[←hgA,List.map_append,List.map_cons,hp1];simp,hgF,hgG⟩
  · rw[zru hx] at hgA hgF hgG
    obtain⟨_,_,eb,_,hfb⟩:=PlOK.of hb1
    simp only[Value.slice.injEq] at eb
    obtain⟨rfl,_,rfl⟩:=eb
    obtain⟨bd,q,hbd,hq1,hRq,hqok⟩:=hfb 0 (by simp)
    rw[Nat.zero_mul] at hRq
    simp only[List.getElem_cons_zero] at hq1
    simp only[List.length_cons] at f1 hb1 hcb hl1 hl2 hn hfb ⊢
    have htb:=(EdsV.tail hb1).mono hle2
    try simp only[go_sem,↓reduceIte,Qa,Qb,Ja,Jc,f1,f8,f10,eq_false (show ¬ k<0 by omega),eq_true hk]
    refine⟨by omega,vat bd hbd ?_⟩
    try simp only[go_sem,↓reduceIte]
    refine zaf q.ed.cells rfl (fun j u hj=>hle2 _ _ (hRq j u hj)) ?_
    try simp only[go_sem,↓reduceIte,Qa,Ja,Jc,f1,f9,Ed.cells,Pl.ed,De.ed]
    refine⟨by omega,vat bd hbd ?_⟩
    try simp only[go_sem,↓reduceIte,Qa,Qb,Qc,f1]
    refine⟨1,ys2.length+1,rfl,rfl,by omega,by omega,?_⟩
    try simp only[go_sem,Qb,Qc]
    repeat' (first
      |refine And.intro ?_ ?_
      |(refine zaf q.ed.cells rfl (fun j u hj=>hle2 _ _ (hRq j u hj)) ?_;try simp only[go_sem,↓reduceIte,Qa,Qb,Qc,Ed.cells,Pl.ed,De.ed])
      |(refine vgrow (rowP ps) (fun h0=>by first|rfl|(rw[gb_ne h0];rfl)) (fun h0=>by rw[h0,zbv];rfl) (by rw[zaH]) (by omega) (by omega) (by omega) ?_;try simp only[go_sem,↓reduceIte,Qa,Qb,Qc])
      |(refine vgrow (rowP qs) (fun h0=>by first|rfl|(rw[gb_ne h0];rfl)) (fun h0=>by rw[h0,zbv];rfl) (by rw[zaH]) (by omega) (by omega) (by omega) ?_;try simp only[go_sem,↓reduceIte,Qa,Qb,Qd,Qe,Qf,reduceCtorEq,f0,f2,f3]))
    all_goals first
      | (refine ⟨((a, c, xs), (if d = 1 then b else b.map (·.add (1 * 13)), d - 1, ys2), ps ++ [q], qs ++ [q], ok), [0, 4, 6], ?_⟩
         try simp only[go_sem,Qb,Qc]
         exact⟨by omega,⟨⟨rfl,rfl⟩,fun _=>by rw[zaF];rfl,fun _=>by rw[zaF];rfl⟩,⟨by decide,rfl⟩,ha1.mono hle2,htb,hsnoc ps q R2 hpo2 (hqok.mono hle2),hsnoc qs q R2 hqo2 (hqok.mono hle2),by omega,by omega,n,by omega,by rw[←hgA,List.map_append,List.map_cons,hq1];simp,by rw[←hgF,List.map_append,List.map_cons,hq1];simp,hgG⟩)
      | (refine ⟨((a, c, xs), (if d = 1 then b else b.map (·.add (1 * 13)), d - 1, ys2), ps ++ [q], qs ++ [q], ok), [0, 5, 6], ?_⟩
         try simp only[go_sem,Qb,Qc]
         exact⟨by omega,⟨⟨rfl,rfl⟩,fun _=>by rw[zaF];rfl,fun _=>by rw[zaF];rfl⟩,⟨by decide,rfl⟩,ha1.mono hle2,htb,hsnoc ps q R2 hpo2 (hqok.mono hle2),hsnoc qs q R2 hqo2 (hqok.mono hle2),by omega,by omega,n,by omega,by rw[←hgA,List.map_append,List.map_cons,hq1];simp,by rw[←hgF,List.map_append,List.map_cons,hq1];simp,hgG⟩)
  · rw[zrv hl1 hl2] at hgA hgF hgG
    have hkey:=zcN hl1 hl2
    subst hk
    obtain⟨_,_,ea,_,hfa⟩:=PlOK.of ha1
    simp only[Value.slice.injEq] at ea
    obtain⟨rfl,_,rfl⟩:=ea
    obtain⟨_,_,eb,_,hfb⟩:=PlOK.of hb1
    simp only[Value.slice.injEq] at eb
    obtain⟨rfl,_,rfl⟩:=eb
    obtain⟨ad,p,had,hp1,hRp,hpok⟩:=hfa 0 (by simp)
    obtain⟨bd,q,hbd,hq1,hRq,hqok⟩:=hfb 0 (by simp)
    rw[Nat.zero_mul] at hRp hRq
    simp only[List.getElem_cons_zero] at hp1 hq1
    simp only[List.length_cons] at f0 f1 ha1 hb1 hca hcb hn hfa hfb ⊢
    have hl1':ps.length+(xs2.length+1)+(ys2.length+1)≤8192:=by assumption
    have hl2':qs.length+(ys2.length+1)≤4096:=by assumption
    try simp only[go_sem,↓reduceIte,Qa,Qb,reduceCtorEq,Ja,Jc,f0,f3,f10,eq_false (show ¬ (0:Int)<0 by omega)]
    refine⟨by omega,vat ad had ?_⟩
    try simp only[go_sem,↓reduceIte]
    refine zaf p.ed.cells rfl (fun j u hj=>hle2 _ _ (hRp j u hj)) ?_
    try simp only[go_sem,↓reduceIte,Qa,Ja,Jc,f1,Ed.cells,Pl.ed,De.ed]
    refine⟨by omega,vat bd hbd ?_⟩
    try simp only[go_sem,↓reduceIte]
    refine zaf q.ed.cells rfl (fun j u hj=>hle2 _ _ (hRq j u hj)) ?_
    try simp only[go_sem,↓reduceIte,Qa,Ed.cells,Pl.ed,De.ed]
    refine⟨zqj,zpI [0] [.val (.agg ((p.1.ed p.2.1 p.2.2.1 p.2.2.2).cells).toArray),.val (.agg ((q.1.ed q.2.1 q.2.2.1 q.2.2.2).cells).toArray),.loc 0 0] [.box [.val (.bool ok)]] (zrs p.1 q.1 p.2.1 q.2.1 p.2.2.1 p.2.2.2 q.2.2.1 q.2.2.2 ok R2 (hpok.mono hle2) (hqok.mono hle2) (by rw[hp1,hq1];exact hkey)) rfl rfl rfl ?_ (by simp) rfl rfl ?_⟩
    · try simp only[go_sem]
    rintro R3 bs r hle3 ⟨b1,b2,rfl⟩ _
    try simp only[go_sem,↓reduceIte,Qa,Qb,reduceCtorEq,Ja,Jc,f0,f8,setG]
    have hta:=(EdsV.tail ha1).mono (RO.le_trans hle2 hle3)
    have htb:=(EdsV.tail hb1).mono (RO.le_trans hle2 hle3)
    refine⟨by omega,vat ad had ?_⟩
    try simp only[go_sem,↓reduceIte]
    refine zaf p.ed.cells rfl (fun j u hj=>hle3 _ _ (hle2 _ _ (hRp j u hj))) ?_
    try simp only[go_sem,↓reduceIte,Qa,Qb,Qc,reduceCtorEq,f0,f1,Ed.cells,Pl.ed,De.ed]
    refine⟨1,xs2.length+1,rfl,rfl,by omega,by omega,?_⟩
    try simp only[go_sem,Qb,Qc]
    refine⟨1,ys2.length+1,rfl,rfl,by omega,by omega,?_⟩
    try simp only[go_sem,Qb,Qc]
    refine vgrow (rowP ps) (fun h0=>by first|rfl|(rw[gb_ne h0];rfl)) (fun h0=>by rw[h0,zbv];rfl) (by rw[zaH]) (by omega) (by omega) (by omega) ?_
    try simp only[go_sem,↓reduceIte,Qa,Qb,Qd,Qe,Qf,reduceCtorEq,f2,f3,f9]
    refine⟨((if c=1 then a else a.map (·.add (1*13)),c-1,xs2),(if d=1 then b else b.map (·.add (1*13)),d-1,ys2),ps++[p],qs,ok&&decide (p.1=q.1)),[0,6,2],?_⟩
    try simp only[go_sem,Qb,Qc]
    exact⟨by omega,⟨⟨rfl,rfl,rfl⟩,rfl,fun _=>by rw[zaF];rfl,fun h=>by rw[gb_ne h]⟩,⟨by decide,rfl⟩,hta,htb,hsnoc ps p R3 (fun p hp=>(hpo2 p hp).mono hle3) (hpok.mono (RO.le_trans hle2 hle3)),fun p hp=>(hqo2 p hp).mono hle3,by omega,by omega,n,by omega,by rw[←hgA,List.map_append,List.map_cons,hp1];simp,hgF,by rw[←hgG,hp1,hq1,Bool.and_assoc]⟩
/-! ### Package device: Sync, Lacks -/
theorem ze2(n:Int)(l:List De):n≤nextD n l:=by
 unfold nextD
 induction l generalizing n with
 |nil=>exact Int.le_refl _
 |cons e l ih =>
  rw[List.foldl_cons]
  exact Int.le_trans (by omega) (ih _)
theorem zds(n:Int)(l:List De)(e:De):nextD n (l++[e])=max (nextD n l) (e.seq/64+1):=by unfold nextD;rw[List.foldl_append];rfl
theorem zas{d:Dv}(h:zah d=true):(∀e∈d.edits,zak e=true∧e.seq/64<d.next)∧zae d.edits:=by
 unfold zah at h
 simp only[Bool.and_eq_true,decide_eq_true_eq,List.all_eq_true] at h
 exact⟨fun e he=>(zb0 _ _).1 (h.1.2 e he),h.2⟩
def SyncQ(d o:Dv)(dv ov:Value)(R:RO)(s:St):Prop :=
  ∃env,env 2 = .loc 0 0∧env 3 = .loc 1 0∧env 4 = .loc 2 0 ∧
    ((s=⟨env,[.box [.val (.int .i64 d.id),.val (.int .i64 d.epoch),.val (.int .i64 d.next),.val dv],.box [.val (.int .i64 o.id),.val (.int .i64 o.epoch),.val (.int .i64 o.next),.val ov],.box [.val (.int .i64 0),.val (.int .i64 0),.val (.int .i64 0),.val (.slice none 0 0)],
      .box [.val (.int .i64 d.id),.val (.int .i64 d.epoch),.val (.int .i64 d.next),.val dv],.box [.val (.int .i64 o.id),.val (.int .i64 o.epoch),.val (.int .i64 o.next),.val ov]],R⟩∧env 6 = .loc 3 0∧env 7 = .loc 4 0) ∨
     (s=⟨env,[.box [.val (.int .i64 d.id),.val (.int .i64 d.epoch),.val (.int .i64 d.next),.val dv],.box [.val (.int .i64 o.id),.val (.int .i64 o.epoch),.val (.int .i64 o.next),.val ov],.box [.val (.int .i64 0),.val (.int .i64 0),.val (.int .i64 0),.val (.slice none 0 0)],
      .box [.val (.int .i64 o.id),.val (.int .i64 o.epoch),.val (.int .i64 o.next),.val ov],.box [.val (.int .i64 d.id),.val (.int .i64 d.epoch),.val (.int .i64 d.next),.val dv]],R⟩∧env 6 = .loc 4 0∧env 7 = .loc 3 0))
set_option maxHeartbeats 4000000 in
theorem dSync(d o:Dv)(dv ov:Value)(R:RO)(h:EdsV R dv d.edits)(k:EdsV R ov o.edits):zaa Tryz.prog 17 [.agg (zai d dv).toArray,.agg (zai o ov).toArray] R fun R' r=>DvR R' r (zaC d o):=by
 have hV:=fun R' (hle:RO.le R R')=>zjE d dv R' (h.mono hle)
 have hVo:=fun R' (hle:RO.le R R')=>zjE o ov R' (k.mono hle)
 have h0:=h
 have k0:=k
 obtain⟨a,cap,rfl,hc,hf⟩:=h.form
 obtain⟨b,cap',rfl,hc',hf'⟩:=k.form
 simp only[zai] at hV hVo ⊢
 refine zac mix Tryz.func17 comp17 (by simp[Tryz.ntmps17]) ?_;simp only[vc17,rs17]
 (refine cutR ?_ ?_ ?_;rotate_left;(try simp only[go_sem,↓reduceIte,Qa,Qb];rfl))
 rw[zbU]
 refine cutT (SyncQ d o (.slice a d.edits.length cap) (.slice b o.edits.length cap') R) ?_ ?_
 ·try simp only[go_sem,↓reduceIte,Qa,Qb]
  repeat' (with_reducible first|refine And.intro ?_ ?_|intro _)
  all_goals unfold SyncQ
  all_goals first
   |exact⟨_,rfl,rfl,rfl,.inl ⟨rfl,rfl,rfl⟩⟩
   |exact⟨_,rfl,rfl,rfl,.inr ⟨rfl,rfl,rfl⟩⟩
 rintro s' ⟨env,e2,e3,e4,hst⟩
 rcases hst with⟨rfl,e6,e7⟩|⟨rfl,e6,e7⟩
 ·try simp only[go_sem,↓reduceIte,Qb,e6]
  refine vcall (hV R (RO.le_refl _)) ?_
  rintro R1 r hle1 rfl
  unfold zaC
  cases hv:zah d with
  |false =>
   try simp only[go_sem,↓reduceIte,Qa,Qb,e4]
   rw[if_neg (by simp)]
   exact rfl
  |true =>
  try simp only[go_sem,↓reduceIte,Qa,Qb,e7]
  refine vcall (hVo R1 hle1) ?_
  rintro R2 r hle2 rfl
  cases hvo:zah o with
  |false =>
   try simp only[go_sem,↓reduceIte,Qa,Qb,e4]
   exact rfl
  |true =>
  have hle12:=RO.le_trans hle1 hle2
  have hd1:=zaK hv
  have ho1:=zaK hvo
  have hd2:=zas hv
  have ho2:=zas hvo
  have hM:=zco (d.edits.length+o.edits.length) d.edits o.edits (Nat.le_refl _) hd2.2 ho2.2
  rw[if_pos ⟨rfl,rfl⟩]
  try simp only[go_sem,↓reduceIte,Qa,Qb,e2,e3]
  refine vhand [5] [.val (.slice a d.edits.length cap),.val (.slice b o.edits.length cap'),.val (.func (.func 46) #[] #[]),.fn 47 [.l 0 0]] [.box [.val (.bool true)]] (zlX d.edits o.edits _ _ R2 (h0.mono hle12) (k0.mono hle12) (by omega) (by omega)) rfl rfl rfl ?_ (by simp) rfl rfl ?_
  ·try simp only[go_sem]
  rintro R3 bs r hle3 ⟨rest,w,rfl,rfl,u,v,rfl,hu,hvf⟩ _
  rw[hM.fresh] at hvf
  rw[hM.agree]
  change EdsV R3 u (zcD d.edits o.edits) at hu
  obtain⟨ua,ucap,rfl,_⟩:=hu.form
  obtain⟨va,vcap,rfl,_,hff⟩:=PlOK.of hvf
  simp only[List.map_cons,renB,List.map_nil,ren]
  obtain⟨rest',hrest⟩:∃r',r'=rest.map (renB ([5]++List.range' 6 ((rest.length+1)-1))):=⟨_,rfl⟩
  simp only[List.length_cons,List.length_nil,Nat.zero_add,Qb]
  try simp only[go_sem,↓reduceIte,Qa,Qb,setG,zgV,e4]
  refine⟨fun hag=>?_,fun hag=>⟨fun hl=>?_,fun hl=>?_⟩⟩
  ·rw[if_neg (by rw[hag];simp)];exact rfl
  ·rw[if_pos hag,if_pos (by omega)];exact rfl
  rw[if_pos hag,if_neg (by omega)]
  have hfb:∀e∈freshD d.edits o.edits,1≤e.seq∧e.seq≤1099511627776:=fun e he=>zb2 (ho2.1 e (List.mem_filter.1 he).1).1
  have hfl:(freshD d.edits o.edits).length≤4096:=Nat.le_trans (List.length_filter_le _ _) (by omega)
  have hW:=fun(n:Int) R' old w ds ho hw=>dWith ⟨d.id,d.epoch,n,[]⟩ old w ds R' ho hw
  simp only[zai] at hW
  obtain⟨fs,hfs⟩:∃fs,fs=freshD d.edits o.edits:=⟨_,rfl⟩
  rw[←hfs] at hfb hff hfl ⊢
  have hnb:∀i,i≤fs.length→1≤nextD d.next (fs.take i)∧nextD d.next (fs.take i)≤1099511627777:=fun i hi=>by
   refine⟨by have:=ze2 d.next (fs.take i);omega,?_⟩
   have h1:∀l:List De,(∀e∈l,1≤e.seq∧e.seq≤1099511627776)→∀n,n≤1099511627777→nextD n l≤1099511627777:=by
    intro l
    induction l with
    |nil=>intro _ n hn;exact hn
    |cons e l ih =>
     intro hl n hn
     have:=hl e (by simp)
     exact ih (fun x hx=>hl x (by simp[hx])) _ (by show max n (e.seq/64+1)≤_;omega)
   exact h1 _ (fun e he=>hfb e (List.mem_of_mem_take he)) _ (by omega)
  refine zal Nat (fun i=>[(46,.val (.int .i64 i)),(45,.val (.int .i64 fs.length)),(44,.val (.slice va fs.length vcap)),(6,.loc 0 0),(4,.loc 1 0),(9,.val (.slice ua (zcD d.edits o.edits).length ucap))])
   (fun i=>[.box [.val (.int .i64 d.id),.val (.int .i64 d.epoch),.val (.int .i64 (nextD d.next (fs.take i))),.val (.slice a d.edits.length cap)],.box [.val (.int .i64 0),.val (.int .i64 0),.val (.int .i64 0),.val (.slice none 0 0)]])
   (fun i _=>i≤fs.length) (fun i=>fs.length-i) 0 [3,2] ?_ ?_ ?_ ?_
  ·(try simp only[go_sem,↓reduceIte,Qa,Qb])<;>(repeat' (first|rfl|trivial|constructor|(intro h;exact absurd rfl h)))
  ·try simp only[go_sem,Qb,Qe,Qf]
   rfl
  ·exact Nat.zero_le _
  rintro i env R4 hle4 hE hi
  (simp only[go_sem] at hE;obtain⟨g46,g45,g44,g6,g4,g9⟩:=hE;simp only[go_sem,↓reduceIte,Qa,Qb,g46,g45,g44,g6,g9];dsimp only at *)
  refine⟨fun hlt=>⟨hlt,?_⟩,fun hge=>?_⟩
  ·have hlt':i<fs.length:=by omega
   obtain⟨ad,p,had,hp1,hR,hpok⟩:=hff i hlt'
   have hpb:=hfb _ (List.getElem_mem hlt')
   rw[←hp1] at hpb
   have htd:p.1.seq.tdiv 64=p.1.seq/64:=zaN (by omega) (by omega)
   have hsn:=zds d.next (fs.take i) fs[i]
   rw[←List.take_succ_eq_append_getElem hlt',←hp1] at hsn
   refine vat ad had ?_
   try simp only[go_sem,↓reduceIte]
   refine zaf p.ed.cells rfl (fun j u hj=>hle4 _ _ (hR j u hj)) ?_
   simp only[go_sem,↓reduceIte,Qa,Qb,Qd,Qe,Qf,Ed.cells,Pl.ed,De.ed,g46,g45,g44,g6,g4,g9]
   refine⟨by omega,_,W.in64 (by rw[htd];omega),_,W.in64 (by rw[htd];omega),?_⟩
   refine⟨_,W.in64 (by omega),i+1,[],?_⟩
   rw[hsn,htd]
   try simp only[go_sem]
   exact⟨by omega,rfl,by decide,by omega⟩
  ·obtain rfl:i=fs.length:=by omega
   rw[List.take_length] at *
   refine vcall (hW _ R4 _ _ _ rfl (hu.mono hle4)) ?_
   rintro R5 w hle5 ⟨v',rfl,hv'⟩
   have hv1:=hv'.one
   obtain⟨va2,vc2,rfl,_⟩:=hv'.form
   try simp only[go_sem,↓reduceIte,Qa,Qb,g4]
   exact⟨_,rfl,hv'⟩
 ·try simp only[go_sem,↓reduceIte,Qb,e6]
  refine vcall (hV R (RO.le_refl _)) ?_
  rintro R1 r hle1 rfl
  unfold zaC
  cases hv:zah d with
  |false =>
   try simp only[go_sem,↓reduceIte,Qa,Qb,e4]
   rw[if_neg (by simp)]
   exact rfl
  |true =>
  try simp only[go_sem,↓reduceIte,Qa,Qb,e7]
  refine vcall (hVo R1 hle1) ?_
  rintro R2 r hle2 rfl
  cases hvo:zah o with
  |false =>
   try simp only[go_sem,↓reduceIte,Qa,Qb,e4]
   exact rfl
  |true =>
  have hle12:=RO.le_trans hle1 hle2
  have hd1:=zaK hv
  have ho1:=zaK hvo
  have hd2:=zas hv
  have ho2:=zas hvo
  have hM:=zco (d.edits.length+o.edits.length) d.edits o.edits (Nat.le_refl _) hd2.2 ho2.2
  rw[if_pos ⟨rfl,rfl⟩]
  try simp only[go_sem,↓reduceIte,Qa,Qb,e2,e3]
  refine vhand [5] [.val (.slice a d.edits.length cap),.val (.slice b o.edits.length cap'),.val (.func (.func 46) #[] #[]),.fn 47 [.l 0 0]] [.box [.val (.bool true)]] (zlX d.edits o.edits _ _ R2 (h0.mono hle12) (k0.mono hle12) (by omega) (by omega)) rfl rfl rfl ?_ (by simp) rfl rfl ?_
  ·try simp only[go_sem]
  rintro R3 bs r hle3 ⟨rest,w,rfl,rfl,u,v,rfl,hu,hvf⟩ _
  rw[hM.fresh] at hvf
  rw[hM.agree]
  change EdsV R3 u (zcD d.edits o.edits) at hu
  obtain⟨ua,ucap,rfl,_⟩:=hu.form
  obtain⟨va,vcap,rfl,_,hff⟩:=PlOK.of hvf
  simp only[List.map_cons,renB,List.map_nil,ren]
  obtain⟨rest',hrest⟩:∃r',r'=rest.map (renB ([5]++List.range' 6 ((rest.length+1)-1))):=⟨_,rfl⟩
  simp only[List.length_cons,List.length_nil,Nat.zero_add,Qb]
  try simp only[go_sem,↓reduceIte,Qa,Qb,setG,zgV,e4]
  refine⟨fun hag=>?_,fun hag=>⟨fun hl=>?_,fun hl=>?_⟩⟩
  ·rw[if_neg (by rw[hag];simp)];exact rfl
  ·rw[if_pos hag,if_pos (by omega)];exact rfl
  rw[if_pos hag,if_neg (by omega)]
  have hfb:∀e∈freshD d.edits o.edits,1≤e.seq∧e.seq≤1099511627776:=fun e he=>zb2 (ho2.1 e (List.mem_filter.1 he).1).1
  have hfl:(freshD d.edits o.edits).length≤4096:=Nat.le_trans (List.length_filter_le _ _) (by omega)
  have hW:=fun(n:Int) R' old w ds ho hw=>dWith ⟨d.id,d.epoch,n,[]⟩ old w ds R' ho hw
  simp only[zai] at hW
  obtain⟨fs,hfs⟩:∃fs,fs=freshD d.edits o.edits:=⟨_,rfl⟩
  rw[←hfs] at hfb hff hfl ⊢
  have hnb:∀i,i≤fs.length→1≤nextD d.next (fs.take i)∧nextD d.next (fs.take i)≤1099511627777:=fun i hi=>by
   refine⟨by have:=ze2 d.next (fs.take i);omega,?_⟩
   have h1:∀l:List De,(∀e∈l,1≤e.seq∧e.seq≤1099511627776)→∀n,n≤1099511627777→nextD n l≤1099511627777:=by
    intro l
    induction l with
    |nil=>intro _ n hn;exact hn
    |cons e l ih =>
     intro hl n hn
     have:=hl e (by simp)
     exact ih (fun x hx=>hl x (by simp[hx])) _ (by show max n (e.seq/64+1)≤_;omega)
   exact h1 _ (fun e he=>hfb e (List.mem_of_mem_take he)) _ (by omega)
  refine zal Nat (fun i=>[(46,.val (.int .i64 i)),(45,.val (.int .i64 fs.length)),(44,.val (.slice va fs.length vcap)),(6,.loc 0 0),(4,.loc 1 0),(9,.val (.slice ua (zcD d.edits o.edits).length ucap))])
   (fun i=>[.box [.val (.int .i64 d.id),.val (.int .i64 d.epoch),.val (.int .i64 (nextD d.next (fs.take i))),.val (.slice a d.edits.length cap)],.box [.val (.int .i64 0),.val (.int .i64 0),.val (.int .i64 0),.val (.slice none 0 0)]])
   (fun i _=>i≤fs.length) (fun i=>fs.length-i) 0 [4,2] ?_ ?_ ?_ ?_
  ·(try simp only[go_sem,↓reduceIte,Qa,Qb])<;>(repeat' (first|rfl|trivial|constructor|(intro h;exact absurd rfl h)))
  ·try simp only[go_sem,Qb,Qe,Qf]
   rfl
  ·exact Nat.zero_le _
  rintro i env R4 hle4 hE hi
  (simp only[go_sem] at hE;obtain⟨g46,g45,g44,g6,g4,g9⟩:=hE;simp only[go_sem,↓reduceIte,Qa,Qb,g46,g45,g44,g6,g9];dsimp only at *)
  refine⟨fun hlt=>⟨hlt,?_⟩,fun hge=>?_⟩
  ·have hlt':i<fs.length:=by omega
   obtain⟨ad,p,had,hp1,hR,hpok⟩:=hff i hlt'
   have hpb:=hfb _ (List.getElem_mem hlt')
   rw[←hp1] at hpb
   have htd:p.1.seq.tdiv 64=p.1.seq/64:=zaN (by omega) (by omega)
   have hsn:=zds d.next (fs.take i) fs[i]
   rw[←List.take_succ_eq_append_getElem hlt',←hp1] at hsn
   refine vat ad had ?_
   try simp only[go_sem,↓reduceIte]
   refine zaf p.ed.cells rfl (fun j u hj=>hle4 _ _ (hR j u hj)) ?_
   simp only[go_sem,↓reduceIte,Qa,Qb,Qd,Qe,Qf,Ed.cells,Pl.ed,De.ed,g46,g45,g44,g6,g4,g9]
   refine⟨by omega,_,W.in64 (by rw[htd];omega),_,W.in64 (by rw[htd];omega),?_⟩
   refine⟨_,W.in64 (by omega),i+1,[],?_⟩
   rw[hsn,htd]
   try simp only[go_sem]
   exact⟨by omega,rfl,by decide,by omega⟩
  ·obtain rfl:i=fs.length:=by omega
   rw[List.take_length] at *
   refine vcall (hW _ R4 _ _ _ rfl (hu.mono hle4)) ?_
   rintro R5 w hle5 ⟨v',rfl,hv'⟩
   have hv1:=hv'.one
   obtain⟨va2,vc2,rfl,_⟩:=hv'.form
   try simp only[go_sem,↓reduceIte,Qa,Qb,g4]
   exact⟨_,rfl,hv'⟩
/-! ### Package device: Series; the laws' small functions -/
/-- What Series hands back. -/
def SerV(R:RO)(r:Value)(s:Se)(rl:List Nd)(ms:List Mv)(d:Dv):Prop :=
 if zah d=true then zdA R r s rl ms d.edits else r = .tuple #[.slice none 0 0,.slice none 0 0,.int .i64 1]
theorem zdA.shape{R:RO}{r:Value}{s:Se}{rl:List Nd}{ms:List Mv}{ds:List De}(h:zdA R r s rl ms ds):∃u v k,r = .tuple #[u,v,.int .i64 k]:=by
 unfold zdA at h
 split at h
 ·exact⟨_,_,_,h⟩
 ·split at h
  ·exact⟨_,_,_,h⟩
  ·obtain⟨u,v,h,_⟩:=h
   exact⟨_,_,_,h⟩
theorem ziF(s:Se)(rl:List Nd)(ms:List Mv)(d:Dv)(v:Value)(R:RO)(hr:RuleV R s.rule rl)(hm:EncV Mv.cells 5 R s.moves ms)(h:EdsV R v d.edits)(hsz:ms.length+d.edits.length≤63) :
  zaa Tryz.prog 18 [.agg s.cells.toArray,.agg (zai d v).toArray] R fun R' r=>SerV R' r s rl ms d:=by
 have hV:=zjE d v R h
 have hM:=fun R' (hle:RO.le R R')=>zq9 s rl ms d.edits v R' (hr.mono hle) (hm.mono hle) (h.mono hle) hsz
 have hv1:=h.one
 have hr1:=hr.one
 obtain⟨a,cap,rfl,hc,hf⟩:=h.form
 have hM2:=hm
 obtain⟨sr,sm,sl,sz,sg,sf,smv⟩:=s
 dsimp only at hr hm hr1 hM2
 obtain⟨ra,rn,rc,rfl⟩:=hr.form
 obtain⟨ma,mcap,rfl,_⟩:=hM2.form
 simp only[zai] at hV ⊢
 simp only[Se.cells] at hM ⊢
 refine zac mix Tryz.func18 comp18 (by simp[Tryz.ntmps18]) ?_;simp only[go_sem,↓reduceIte,Qa,Qb,vc18,rs18]
 refine vcall hV ?_
 rintro R1 r hle1 rfl
 unfold SerV
 cases hv:zah d with
 |false =>
  try simp only[go_sem,↓reduceIte,Qa]
  try rw[if_neg (by simp)]
 |true =>
  try simp only[go_sem,↓reduceIte,Qa,Qb]
  refine vcall (hM R1 hle1) ?_
  intro R2 r hle2 hr2
  obtain⟨u,w,k,rfl⟩:=hr2.shape
  try simp only[go_sem,↓reduceIte,Qa]
  exact hr2
/-! ### Worlds -/
structure Wd where
 n0:Dv
 n1:Dv
 n2:Dv
 c0:Dv
 c1:Dv
 c2:Dv
 e0:Int
 e1:Int
 e2:Int
 deriving DecidableEq
def Wd.now(w:Wd):Nat→Dv
 |0=>w.n0
 |1=>w.n1
 |_=>w.n2
def Wd.copy(w:Wd):Nat→Dv
 |0=>w.c0
 |1=>w.c1
 |_=>w.c2
def Wd.ep(w:Wd):Nat→Int
 |0=>w.e0
 |1=>w.e1
 |_=>w.e2
def Wd.setNow(w:Wd)(d:Dv):Nat→Wd
 |0=>{ w with n0:=d }
 |1=>{ w with n1:=d }
 |_=>{ w with n2:=d }
def Wd.setCopy(w:Wd)(d:Dv):Nat→Wd
 |0=>{ w with c0:=d }
 |1=>{ w with c1:=d }
 |_=>{ w with c2:=d }
def Wd.setEp(w:Wd)(n:Int):Nat→Wd
 |0=>{ w with e0:=n }
 |1=>{ w with e1:=n }
 |_=>{ w with e2:=n }
structure Opn where
 kind:Int
 a:Int
 b:Int
 ed:Ed
def Opn.ok(o:Opn):Prop:=(0≤o.kind∧o.kind≤255)∧(0≤o.a∧o.a≤255)∧0≤o.b∧o.b≤255
def Opn.cells(o:Opn):List Value:=[.int .u8 o.kind,.int .u8 o.a,.int .u8 o.b]++o.ed.cells
def Opn.i(o:Opn):Nat:=(o.a%3).toNat
def Opn.k(o:Opn):Nat:=(o.b%3).toNat
def stepW(w:Wd)(i:Nat):Except Int Dv→Wd
 |.error _=>w
 |.ok d=>w.setNow d i
def runW(w:Wd)(o:Opn):Wd :=
 if o.kind%6=3 then stepW w o.i (zaC (w.now o.i) (w.now o.k))
 else if o.kind%6=4 then w.setCopy (w.now o.i) o.i
 else if o.kind%6=5 then match za1 (w.copy o.i) (w.ep o.i+1) with
  |.error _=>w
  |.ok d=>(w.setEp (w.ep o.i+1) o.i).setNow d o.i
 else stepW w o.i (dvAdd (w.now o.i) (madeE o.ed))
def za2(w:Wd)(x0 x1 x2 y0 y1 y2:Value):List Value:=[.int .i64 w.n0.id,.int .i64 w.n0.epoch,.int .i64 w.n0.next,x0,.int .i64 w.n1.id,.int .i64 w.n1.epoch,.int .i64 w.n1.next,x1,.int .i64 w.n2.id,.int .i64 w.n2.epoch,.int .i64 w.n2.next,x2,
 .int .i64 w.c0.id,.int .i64 w.c0.epoch,.int .i64 w.c0.next,y0,.int .i64 w.c1.id,.int .i64 w.c1.epoch,.int .i64 w.c1.next,y1,.int .i64 w.c2.id,.int .i64 w.c2.epoch,.int .i64 w.c2.next,y2,.int .i64 w.e0,.int .i64 w.e1,.int .i64 w.e2]
def WdV(R:RO)(r:Value)(w:Wd):Prop:=∃x0 x1 x2 y0 y1 y2,r = .agg (za2 w x0 x1 x2 y0 y1 y2).toArray∧EdsV R x0 w.n0.edits∧EdsV R x1 w.n1.edits∧EdsV R x2 w.n2.edits∧EdsV R y0 w.c0.edits∧EdsV R y1 w.c1.edits∧EdsV R y2 w.c2.edits
theorem WdV.mono{R R':RO}{r:Value}{w:Wd}(h:WdV R r w)(hle:RO.le R R'):WdV R' r w:=by
 obtain⟨x0,x1,x2,y0,y1,y2,e,h0,h1,h2,h3,h4,h5⟩:=h
 exact⟨x0,x1,x2,y0,y1,y2,e,h0.mono hle,h1.mono hle,h2.mono hle,h3.mono hle,h4.mono hle,h5.mono hle⟩
def zbY:Wd:=⟨⟨2,0,1,[]⟩,⟨5,0,1,[]⟩,⟨8,0,1,[]⟩,⟨2,0,1,[]⟩,⟨5,0,1,[]⟩,⟨8,0,1,[]⟩,0,0,0⟩
theorem eEdit(o:Opn)(R:RO):zaa Tryz.prog 83 [.agg o.cells.toArray] R fun R' v=>∃ra rn rc,v = .agg (((madeE o.ed).ed ra rn rc).cells).toArray∧RuleV R' (.slice ra rn rc) (madeE o.ed).rule:=by
 have hM:=fun R'=>zhj o.ed R'
 simp only[Opn.cells,Ed.cells,Ed.val,List.cons_append,List.nil_append] at hM ⊢
 refine zac mix Tryz.func83 comp83 (by simp[Tryz.ntmps83]) ?_;simp only[go_sem,↓reduceIte,Qa,Qb,vc83,rs83]
 refine vcall (hM R) ?_
 rintro R1 v hle1 ⟨cs,rfl,hd⟩
 obtain⟨ra,rn,rc,rfl,hr⟩:=hd.form
 simp only[Ed.cells,De.ed]
 try simp only[go_sem,↓reduceIte,Qa,Qb]
 exact⟨ra,rn,rc,rfl,hr⟩
set_option maxHeartbeats 1000000 in
theorem zrw(R:RO):zaa Tryz.prog 42 [] R fun R' v=>WdV R' v zbY:=by
 refine zac mix Tryz.func42 comp42 (by simp[Tryz.ntmps42]) ?_;simp only[go_sem,↓reduceIte,Qa,Qb,vc42,rs42]
 refine zaj Nat (fun i=>[(2,.val (.int .i64 i)),(0,.loc 0 0),(1,.loc 1 0)]) (fun i=>[.box [.val (.int .i64 0),.val (.int .i64 0),.val (.int .i64 0),.val (.slice none 0 0),.val (.int .i64 0),.val (.int .i64 0),.val (.int .i64 0),.val (.slice none 0 0),.val (.int .i64 0),.val (.int .i64 0),.val (.int .i64 0),.val (.slice none 0 0),.val (.int .i64 0),.val (.int .i64 0),.val (.int .i64 0),.val (.slice none 0 0),.val (.int .i64 0),.val (.int .i64 0),.val (.int .i64 0),.val (.slice none 0 0),.val (.int .i64 0),.val (.int .i64 0),.val (.int .i64 0),.val (.slice none 0 0),.val (.int .i64 0),.val (.int .i64 0),.val (.int .i64 0)],.box [.val (.int .i64 (if 0<i then 2 else 0)),.val (.int .i64 0),.val (.int .i64 (if 0<i then 1 else 0)),.val (.slice none 0 0),.val (.int .i64 (if 1<i then 5 else 0)),.val (.int .i64 0),.val (.int .i64 (if 1<i then 1 else 0)),.val (.slice none 0 0),.val (.int .i64 (if 2<i then 8 else 0)),.val (.int .i64 0),.val (.int .i64 (if 2<i then 1 else 0)),.val (.slice none 0 0),.val (.int .i64 (if 0<i then 2 else 0)),.val (.int .i64 0),.val (.int .i64 (if 0<i then 1 else 0)),.val (.slice none 0 0),.val (.int .i64 (if 1<i then 5 else 0)),.val (.int .i64 0),.val (.int .i64 (if 1<i then 1 else 0)),.val (.slice none 0 0),.val (.int .i64 (if 2<i then 8 else 0)),.val (.int .i64 0),.val (.int .i64 (if 2<i then 1 else 0)),.val (.slice none 0 0),.val (.int .i64 0),.val (.int .i64 0),.val (.int .i64 0)]]) (fun i _=>i≤3) (fun i=>3-i) 0 ?_ ?_ ?_ ?_
 ·(try simp only[go_sem,↓reduceIte,Qa,Qb,Qe,reduceCtorEq])<;>(repeat' (first|rfl|trivial|constructor|(intro h;exact absurd rfl h)))
 ·try simp only[go_sem,↓reduceIte,Qb,Qe,Qf]
 ·exact Nat.zero_le _
 rintro i env R1 hle1 hE hi
 have hc:i=0∨i=1∨i=2∨i=3:=by omega
 rcases hc with rfl|rfl|rfl|rfl
 ·simp only[go_sem] at hE
  obtain⟨g2,g0,g1⟩:=hE
  rw[show((0:Nat):Int)=0 from rfl] at g2
  try simp only[go_sem,↓reduceIte,Qa,Qb,Qd,Qe,Qf,reduceCtorEq,Ja,Jb,Jc,Jd,g2,g0,g1]
  refine⟨_,W.in64 (by decide),_,W.in64 (by decide),_,W.in64 (by decide),1,by decide,?_,by decide⟩
  repeat' (first|rfl|constructor)
 ·simp only[go_sem] at hE
  obtain⟨g2,g0,g1⟩:=hE
  rw[show((1:Nat):Int)=1 from rfl] at g2
  try simp only[go_sem,↓reduceIte,Qa,Qb,Qc,Qd,Qe,Qf,reduceCtorEq,Ja,Jb,Jc,Jd,g2,g0,g1]
  refine⟨_,W.in64 (by decide),_,W.in64 (by decide),_,W.in64 (by decide),2,by decide,?_,by decide⟩
  repeat' (first|rfl|constructor)
 ·simp only[go_sem] at hE
  obtain⟨g2,g0,g1⟩:=hE
  rw[show((2:Nat):Int)=2 from rfl] at g2
  try simp only[go_sem,↓reduceIte,Qa,Qb,Qc,Qd,Qe,Qf,reduceCtorEq,Ja,Jb,Jc,Jd,g2,g0,g1]
  refine⟨_,W.in64 (by decide),_,W.in64 (by decide),_,W.in64 (by decide),3,by decide,?_,by decide⟩
  repeat' (first|rfl|constructor)
 ·simp only[go_sem] at hE
  obtain⟨g2,g0,g1⟩:=hE
  rw[show((3:Nat):Int)=3 from rfl] at g2
  try simp only[go_sem,↓reduceIte,Qa,Qb,Qe,reduceCtorEq,Jb,g2,g0,g1]
  exact⟨_,_,_,_,_,_,rfl,EdsV.nil _,EdsV.nil _,EdsV.nil _,EdsV.nil _,EdsV.nil _,EdsV.nil _⟩
theorem rem3{a:Int}(h:0≤a):a.tmod 3=0∧(a%3).toNat=0∨a.tmod 3=1∧(a%3).toNat=1∨a.tmod 3=2∧(a%3).toNat=2:=by
 have:=zbw (b:=3) h
 omega
theorem DvR.shape{R:RO}{r:Value}{x:Except Int Dv}(h:DvR R r x):(∃k,x = .error k∧r = .tuple #[.agg #[.int .i64 0,.int .i64 0,.int .i64 0,.slice none 0 0],.int .i64 k])∨∃d a c,x = .ok d∧r = .tuple #[.agg #[.int .i64 d.id,.int .i64 d.epoch,.int .i64 d.next,.slice a d.edits.length c],.int .i64 0]∧EdsV R (.slice a d.edits.length c) d.edits:=by
 cases x with
 |error k=>exact .inl ⟨k,rfl,h⟩
 |ok d =>
  obtain⟨v,e,h⟩:=h
  obtain⟨a,c,rfl,_⟩:=h.form
  exact .inr ⟨d,a,c,rfl,e,h⟩
theorem zbb{d o:Dv}{k:Int}(h:zaC d o = .error k):k≠0:=by
 unfold zaC at h
 (repeat' split at h)<;>simp only[Except.error.injEq,reduceCtorEq] at h<;>omega
theorem zfv{d:Dv}{e:De}{k:Int}(h:dvAdd d e = .error k):k≠0:=by
 unfold dvAdd at h
 (repeat' split at h)<;>simp only[Except.error.injEq,reduceCtorEq] at h<;>omega
theorem zcS{d:Dv}{ep k:Int}(h:za1 d ep = .error k):k≠0:=by
 unfold za1 at h
 (repeat' split at h)<;>simp only[Except.error.injEq,reduceCtorEq] at h<;>omega
/-! ### Worlds: plain -/
theorem lt3{i:Nat}(h:i<3):i=0∨i=1∨i=2:=by omega
theorem zan(w:Wd)(d:Dv){i j:Nat}(hi:i<3)(hj:j<3):(w.setNow d i).now j=if j=i then d else w.now j:=by
 rcases lt3 hi with rfl|rfl|rfl<;>rcases lt3 hj with rfl|rfl|rfl<;>rfl
theorem zaq(w:Wd)(d:Dv){i j:Nat}(hi:i<3)(hj:j<3):(w.setNow d i).copy j=w.copy j:=by
 rcases lt3 hi with rfl|rfl|rfl<;>rcases lt3 hj with rfl|rfl|rfl<;>rfl
theorem zcE(w:Wd)(d:Dv){i j:Nat}(hi:i<3)(hj:j<3):(w.setNow d i).ep j=w.ep j:=by
 rcases lt3 hi with rfl|rfl|rfl<;>rcases lt3 hj with rfl|rfl|rfl<;>rfl
theorem zbm(w:Wd)(d:Dv){i j:Nat}(hi:i<3)(hj:j<3):(w.setCopy d i).now j=w.now j:=by
 rcases lt3 hi with rfl|rfl|rfl<;>rcases lt3 hj with rfl|rfl|rfl<;>rfl
theorem zbr(w:Wd)(d:Dv){i j:Nat}(hi:i<3)(hj:j<3):(w.setCopy d i).copy j=if j=i then d else w.copy j:=by
 rcases lt3 hi with rfl|rfl|rfl<;>rcases lt3 hj with rfl|rfl|rfl<;>rfl
theorem zgx(w:Wd)(d:Dv){i j:Nat}(hi:i<3)(hj:j<3):(w.setCopy d i).ep j=w.ep j:=by
 rcases lt3 hi with rfl|rfl|rfl<;>rcases lt3 hj with rfl|rfl|rfl<;>rfl
theorem zcc(w:Wd)(n:Int){i j:Nat}(hi:i<3)(hj:j<3):(w.setEp n i).now j=w.now j:=by
 rcases lt3 hi with rfl|rfl|rfl<;>rcases lt3 hj with rfl|rfl|rfl<;>rfl
theorem zb3(w:Wd)(n:Int){i j:Nat}(hi:i<3)(hj:j<3):(w.setEp n i).copy j=w.copy j:=by
 rcases lt3 hi with rfl|rfl|rfl<;>rcases lt3 hj with rfl|rfl|rfl<;>rfl
theorem zjF(w:Wd)(n:Int){i j:Nat}(hi:i<3)(hj:j<3):(w.setEp n i).ep j=if j=i then n else w.ep j:=by
 rcases lt3 hi with rfl|rfl|rfl<;>rcases lt3 hj with rfl|rfl|rfl<;>rfl
theorem zhI:∀(l M:List De),l.Pairwise (· ≠ ·)→(∀x∈l,x∈M)→l.length≤M.length
 |[],_,_,_=>Nat.zero_le _
 |x::l,M,hp,hs=>by
  have hp':=List.pairwise_cons.1 hp
  have h1:=zhI l (M.erase x) hp'.2 fun y hy=>(List.mem_erase_of_ne (hp'.1 y hy).symm).2 (hs y (by simp[hy]))
  have h2:=List.length_erase_of_mem (hs x (by simp))
  have h3:=List.length_pos_of_mem (hs x (by simp))
  rw[List.length_cons];omega
theorem zae.ne{l:List De}(h:zae l):l.Pairwise (· ≠ ·):=h.imp fun{a b} hab e=>by subst e;rw[zcj] at hab;cases hab
theorem zae.len{l M:List De}(h:zae l)(hs:∀x∈l,x∈M):l.length≤M.length:=zhI l M h.ne hs
structure Inv (n:Nat) (M:List De) (w:Wd):Prop where
 id:∀i:Nat,i<3→(w.now i).id=2+3*(i:Int)∧(w.copy i).id=2+3*(i:Int)
 ep:∀i:Nat,i<3→(w.now i).epoch=w.ep i∧(w.copy i).epoch≤w.ep i∧0≤w.ep i∧w.ep i≤n
 val:∀i:Nat,i<3→zah (w.now i)=true∧zah (w.copy i)=true
 nxt:∀i:Nat,i<3→(w.now i).next≤1+n∧(w.copy i).next≤1+n
 sub:∀i:Nat,i<3→(∀e∈(w.now i).edits,e∈M)∧∀e∈(w.copy i).edits,e∈M
 len:M.length≤n
 key:∀a∈M,∀b∈M,keyEq a b=true→a=b
 vd:∀a∈M,zak a=true
 fresh:∀i:Nat,i<3→∀m∈M,m.device=2+3*(i:Int)→m.seq%64≤w.ep i∧(m.seq%64=w.ep i→m.seq/64<(w.now i).next)
theorem zhJ:Inv 0 [] zbY:=by
 have hd:∀i:Nat,i<3→zbY.now i=⟨2+3*(i:Int),0,1,[]⟩∧zbY.copy i=⟨2+3*(i:Int),0,1,[]⟩∧zbY.ep i=0:=fun i hi=>by
  rcases lt3 hi with rfl|rfl|rfl<;>exact⟨rfl,rfl,rfl⟩
 refine⟨fun i hi=>?_,fun i hi=>?_,fun i hi=>?_,fun i hi=>?_,fun i hi=>?_,Nat.le_refl _,by simp,by simp,by simp⟩
 all_goals (obtain⟨h1,h2,h3⟩:=hd i hi)
 ·rw[h1,h2];exact⟨rfl,rfl⟩
 ·rw[h1,h2,h3];exact⟨rfl,Int.le_refl _,Int.le_refl _,Int.le_refl _⟩
 ·rcases lt3 hi with rfl|rfl|rfl<;>exact⟨by decide,by decide⟩
 ·rw[h1,h2];exact⟨by simp,by simp⟩
 ·rw[h1,h2];exact⟨by simp,by simp⟩
/-! Single operations -/
theorem zoa{a b M:List De}(ha:∀e∈a,e∈M)(hb:∀e∈b,e∈M)(hk:∀a∈M,∀b∈M,keyEq a b=true→a=b):zbG a b=true:=by
 unfold zbG
 rw[List.all_eq_true]
 intro x hx
 rw[List.all_eq_true]
 intro y hy
 cases h:keyEq x y with
 |false=>rfl
 |true=>simp[hk x (ha x hx) y (hb y hy) h]
theorem zlY{a b M:List De}(hsa:zae a)(hsb:zae b)(ha:∀e∈a,e∈M)(hb:∀e∈b,e∈M)(hk:∀a∈M,∀b∈M,keyEq a b=true→a=b)(x:De):x∈zcD a b↔x∈a∨x∈b:=by
 rw[(zcb hsa hsb).2]
 constructor
 ·rintro(h|⟨h,_⟩)
  ·exact .inl h
  ·exact .inr h
 ·rintro(h|h)
  ·exact .inl h
  ·by_cases hx:x∈a
   ·exact .inl hx
   ·refine .inr ⟨h,fun y hy=>?_⟩
    cases hxy:keyEq x y with
    |false=>rfl
    |true=>exact absurd (by rw[hk x (hb x h) y (ha y hy) hxy];exact hy) hx
theorem zob{n:Int}{l:List De}{B:Int}(hn:n≤B)(h:∀e∈l,e.seq/64<B):nextD n l≤B:=by
 unfold nextD
 induction l generalizing n with
 |nil=>exact hn
 |cons e l ih =>
  rw[List.foldl_cons]
  have:=h e (by simp)
  exact ih (by omega) fun x hx=>h x (by simp[hx])
theorem zlZ{n:Int}{l:List De}{e:De}(h:e∈l):e.seq/64<nextD n l:=by
 unfold nextD
 induction l generalizing n with
 |nil=>simp at h
 |cons x l ih =>
  rw[List.foldl_cons]
  rcases List.mem_cons.1 h with rfl|h
  ·have:=ze2 (max n (e.seq/64+1)) l
   unfold nextD at this
   omega
  ·exact ih h
theorem zfw{d:Dv}(h1:0≤d.id∧d.id≤15∧0≤d.epoch∧d.epoch≤63∧1≤d.next∧d.next≤17179869184∧d.edits.length≤4096)(h2:∀e∈d.edits,zak e=true∧e.seq/64<d.next)(h3:zae d.edits):zah d=true:=by
 unfold zah hdrOK
 simp only[Bool.and_eq_true,decide_eq_true_eq,List.all_eq_true]
 exact⟨⟨h1,fun e he=>(zb0 _ _).2 (h2 e he)⟩,h3⟩
theorem zg2{d o:Dv}{M:List De}{B:Int}(hv:zah d=true)(hvo:zah o=true)(hd:∀e∈d.edits,e∈M)(ho:∀e∈o.edits,e∈M)(hk:∀a∈M,∀b∈M,keyEq a b=true→a=b)(hM:M.length≤4096)(hB:B≤17179869184)(hdn:d.next≤B)(hon:o.next≤B) :
  ∃r,zaC d o = .ok r∧r=⟨d.id,d.epoch,nextD d.next (freshD d.edits o.edits),zcD d.edits o.edits⟩∧zah r=true∧d.next≤r.next∧r.next≤B∧∀e,e∈r.edits↔e∈d.edits∨e∈o.edits:=by
 have h1:=zaK hv
 have h2:=zaK hvo
 have h3:=zas hv
 have h4:=zas hvo
 have hu:=(zcb h3.2 h4.2).1
 have hm:=zlY h3.2 h4.2 hd ho hk
 have hul:(zcD d.edits o.edits).length≤M.length:=hu.len fun x hx=>by
  rcases(hm x).1 hx with h|h
  ·exact hd x h
  ·exact ho x h
 have hnl:=ze2 d.next (freshD d.edits o.edits)
 have hnb:nextD d.next (freshD d.edits o.edits)≤B:=zob hdn fun e he=>by
  have:=(h4.1 e (List.mem_filter.1 he).1).2
  omega
 refine⟨_,?_,rfl,?_,hnl,hnb,hm⟩
 ·unfold zaC
  rw[if_pos ⟨hv,hvo⟩,if_pos (zoa hd ho hk),if_neg (by omega)]
 ·refine zfw ⟨h1.1,h1.2.1,h1.2.2.1,h1.2.2.2.1,by show 1≤nextD _ _;omega,by show nextD _ _≤_;omega,by show(zcD _ _).length≤_;omega⟩ (fun e he=>?_) hu
  show zak e=true∧e.seq/64<nextD d.next (freshD d.edits o.edits)
  rcases((zcb h3.2 h4.2).2 e).1 he with h|⟨h,hn⟩
  ·have:=h3.1 e h
   exact⟨this.1,by omega⟩
  ·refine⟨(h4.1 e h).1,zlZ ?_⟩
   unfold freshD
   rw[List.mem_filter]
   refine⟨h,?_⟩
   have:d.edits.any (keyEq e)=false:=List.any_eq_false.2 fun y hy=>by rw[hn y hy];simp
   rw[this];rfl
theorem zrx{d:Dv}(hv:zah d=true)(e:Ed)(hn:d.next≤10000000)(hl:d.edits.length<4096) :
  ∃r,dvAdd d (madeE e) = .ok r∧r=⟨d.id,d.epoch,d.next+1,d.edits++[zbC d (madeE e)]⟩∧zah r=true∧zak (zbC d (madeE e))=true:=by
 have h1:=zaK hv
 have h3:=zas hv
 have hme:=zir e
 have hb:zak (bareD (madeE e))=true:=by
  revert hme
  unfold zak zbg betw bareD De.ed kindE
  simp only[Bool.and_eq_true,decide_eq_true_eq]
  intro h
  exact⟨⟨⟨⟨by omega,by omega⟩,by omega⟩,h.1.2⟩,h.2⟩
 have hs:zak (zbC d (madeE e))=true:=by
  revert hme
  unfold zak zbg betw zbC De.ed kindE
  simp only[Bool.and_eq_true,decide_eq_true_eq]
  intro h
  exact⟨⟨⟨⟨by omega,by omega⟩,by omega⟩,h.1.2⟩,h.2⟩
 refine⟨_,?_,rfl,?_,hs⟩
 ·unfold dvAdd
  rw[if_pos ⟨hv,hb⟩,if_neg (by omega)]
 ·refine zfw ⟨h1.1,h1.2.1,h1.2.2.1,h1.2.2.2.1,by show 1≤d.next+1;omega,by show d.next+1≤_;omega,by show(d.edits++[_]).length≤_;simp;omega⟩ (fun x hx=>?_) ?_
  ·show zak x=true∧x.seq/64<d.next+1
   rcases List.mem_append.1 hx with hx|hx
   ·have:=h3.1 x hx
    exact⟨this.1,by omega⟩
   ·simp only[List.mem_cons,List.not_mem_nil,or_false] at hx
    subst hx
    refine⟨hs,?_⟩
    show(64*d.next+d.epoch)/64<d.next+1
    omega
  ·refine List.pairwise_append.2 ⟨h3.2,List.pairwise_singleton _ _,fun x hx y hy=>?_⟩
   simp only[List.mem_cons,List.not_mem_nil,or_false] at hy
   subst hy
   have:=(h3.1 x hx).2
   rw[zbP]
   left
   show x.seq<64*d.next+d.epoch
   omega
theorem zkn{d:Dv}(hv:zah d=true){ep:Int}(h1:d.epoch<ep)(h2:ep≤63):za1 d ep = .ok ⟨d.id,ep,d.next,d.edits⟩∧zah ⟨d.id,ep,d.next,d.edits⟩=true:=by
 have h3:=zaK hv
 have h4:=zas hv
 refine⟨?_,zfw ⟨h3.1,h3.2.1,by show 0≤ep;omega,h2,h3.2.2.2.2.1,h3.2.2.2.2.2.1,h3.2.2.2.2.2.2⟩ h4.1 h4.2⟩
 unfold za1
 rw[if_pos ⟨hv,by omega,h2⟩,if_neg (by omega)]
/-! ### One operation: plain -/
theorem Opn.i_lt(o:Opn):o.i<3:=by unfold Opn.i;omega
theorem Opn.k_lt(o:Opn):o.k<3:=by unfold Opn.k;omega
theorem Inv.shape{n:Nat}{M:List De}{w:Wd}(h:Inv n M w){i:Nat}(hi:i<3):(w.now i).edits.length≤n :=
 Nat.le_trans ((zas (h.val i hi).1).2.len (h.sub i hi).1) h.len
theorem Inv.newKey{n:Nat}{M:List De}{w:Wd}(h:Inv n M w)(hn:n≤40){i:Nat}(hi:i<3)(e:De):∀m∈M,keyEq m (zbC (w.now i) e)=false:=fun m hm=>by
 rw[←Bool.not_eq_true,keyEq_iff]
 show ¬ (m.device=(w.now i).id∧m.seq=64*(w.now i).next+(w.now i).epoch)
 rintro⟨h2,h1⟩
 rw[(h.id i hi).1] at h2
 have h3:=h.fresh i hi m hm h2
 have h4:=h.ep i hi
 omega
theorem zqk{n:Nat}{M:List De}{w:Wd}(h:Inv n M w)(hn:n≤40){o:Opn}(hk:¬ o.kind%6=3)(hk2:¬ o.kind%6=4)(hk3:¬ o.kind%6=5) :
  runW w o=w.setNow ⟨(w.now o.i).id,(w.now o.i).epoch,(w.now o.i).next+1,(w.now o.i).edits++[zbC (w.now o.i) (madeE o.ed)]⟩ o.i∧Inv (n+1) (M++[zbC (w.now o.i) (madeE o.ed)]) (runW w o):=by
 have hi:=o.i_lt
 have hl:=h.shape hi
 have hx:=h.nxt o.i hi
 obtain⟨r,e1,e2,e3,e4⟩:=zrx (h.val o.i hi).1 o.ed (by omega) (by omega)
 have e:runW w o=w.setNow r o.i:=by
  unfold runW
  rw[if_neg hk,if_neg hk2,if_neg hk3,e1]
  rfl
 rw[e]
 have hr:r.id=(w.now o.i).id∧r.epoch=(w.now o.i).epoch∧r.next=(w.now o.i).next+1∧r.edits=(w.now o.i).edits++[zbC (w.now o.i) (madeE o.ed)]:=by rw[e2];exact⟨rfl,rfl,rfl,rfl⟩
 refine⟨by rw[e2],?_⟩
 have hnk:=h.newKey hn hi (madeE o.ed)
 have hst:(zbC (w.now o.i) (madeE o.ed)).device=2+3*(o.i:Int)∧(zbC (w.now o.i) (madeE o.ed)).seq=64*(w.now o.i).next+(w.now o.i).epoch:=⟨(h.id o.i hi).1,rfl⟩
 generalize hg:zbC (w.now o.i) (madeE o.ed)=e0 at *
 refine⟨fun j hj=>?_,fun j hj=>?_,fun j hj=>?_,fun j hj=>?_,fun j hj=>?_,by simp only[List.length_append,List.length_cons,List.length_nil];have:=h.len;omega,?_,?_,fun j hj=>?_⟩
 ·rw[zan w r hi hj,zaq w r hi hj]
  split
  ·subst_vars;exact⟨by rw[hr.1];exact(h.id _ hj).1,(h.id _ hj).2⟩
  ·exact h.id _ hj
 ·rw[zan w r hi hj,zaq w r hi hj,zcE w r hi hj]
  have:=h.ep j hj
  split
  ·subst_vars;rw[hr.2.1];exact⟨this.1,this.2.1,this.2.2.1,by omega⟩
  ·exact⟨this.1,this.2.1,this.2.2.1,by omega⟩
 ·rw[zan w r hi hj,zaq w r hi hj]
  split
  ·exact⟨e3,(h.val j hj).2⟩
  ·exact h.val j hj
 ·rw[zan w r hi hj,zaq w r hi hj]
  have:=h.nxt j hj
  split
  ·subst_vars;rw[hr.2.2.1];exact⟨by omega,by omega⟩
  ·exact⟨by omega,by omega⟩
 ·rw[zan w r hi hj,zaq w r hi hj]
  have:=h.sub j hj
  refine⟨?_,fun x hx=>List.mem_append.2 (.inl (this.2 x hx))⟩
  split
  ·subst_vars
   rw[hr.2.2.2]
   intro x hx
   rcases List.mem_append.1 hx with hx|hx
   ·exact List.mem_append.2 (.inl (this.1 x hx))
   ·exact List.mem_append.2 (.inr hx)
  ·exact fun x hx=>List.mem_append.2 (.inl (this.1 x hx))
 ·intro a ha b hb hab
  rcases List.mem_append.1 ha with ha|ha<;>rcases List.mem_append.1 hb with hb|hb
  ·exact h.key a ha b hb hab
  ·simp only[List.mem_cons,List.not_mem_nil,or_false] at hb
   rw[hb,hnk a ha] at hab;cases hab
  ·simp only[List.mem_cons,List.not_mem_nil,or_false] at ha
   rw[ha,zay,hnk b hb] at hab;cases hab
  ·simp only[List.mem_cons,List.not_mem_nil,or_false] at ha hb
   rw[ha,hb]
 ·intro a ha
  rcases List.mem_append.1 ha with ha|ha
  ·exact h.vd a ha
  ·simp only[List.mem_cons,List.not_mem_nil,or_false] at ha
   rw[ha];exact e4
 ·rw[zan w r hi hj,zcE w r hi hj]
  intro m hm hmd
  have hep:=h.ep j hj
  rcases List.mem_append.1 hm with hm|hm
  ·have:=h.fresh j hj m hm hmd
   refine⟨this.1,fun h5=>?_⟩
   have:=this.2 h5
   split
   ·subst_vars;rw[hr.2.2.1];omega
   ·exact this
  ·simp only[List.mem_cons,List.not_mem_nil,or_false] at hm
   subst hm
   have hji:j=o.i:=by omega
   subst hji
   rw[if_pos rfl,hr.2.2.1]
   omega
theorem zoc{n:Nat}{M:List De}{w:Wd}(h:Inv n M w)(hn:n≤40){o:Opn}(hk:o.kind%6=3) :
  ∃r,runW w o=w.setNow r o.i∧Inv (n+1) M (runW w o)∧(∀e,e∈r.edits↔e∈(w.now o.i).edits∨e∈(w.now o.k).edits):=by
 have hi:=o.i_lt
 have hk':=o.k_lt
 have hl:=h.len
 obtain⟨r,e1,e2,e3,e4,e5,e6⟩:=zg2 (B:=1+n) (h.val o.i hi).1 (h.val o.k hk').1 (h.sub o.i hi).1 (h.sub o.k hk').1 h.key (by omega) (by omega) (h.nxt o.i hi).1 (h.nxt o.k hk').1
 have e:runW w o=w.setNow r o.i:=by
  unfold runW
  rw[if_pos hk,e1]
  rfl
 rw[e]
 have hr:r.id=(w.now o.i).id∧r.epoch=(w.now o.i).epoch:=by rw[e2];exact⟨rfl,rfl⟩
 refine⟨r,rfl,?_,e6⟩
 refine⟨fun j hj=>?_,fun j hj=>?_,fun j hj=>?_,fun j hj=>?_,fun j hj=>?_,by omega,h.key,h.vd,fun j hj=>?_⟩
 ·rw[zan w r hi hj,zaq w r hi hj]
  split
  ·subst_vars;exact⟨by rw[hr.1];exact(h.id _ hj).1,(h.id _ hj).2⟩
  ·exact h.id _ hj
 ·rw[zan w r hi hj,zaq w r hi hj,zcE w r hi hj]
  have:=h.ep j hj
  split
  ·subst_vars;rw[hr.2];exact⟨this.1,this.2.1,this.2.2.1,by omega⟩
  ·exact⟨this.1,this.2.1,this.2.2.1,by omega⟩
 ·rw[zan w r hi hj,zaq w r hi hj]
  split
  ·exact⟨e3,(h.val j hj).2⟩
  ·exact h.val j hj
 ·rw[zan w r hi hj,zaq w r hi hj]
  have:=h.nxt j hj
  split
  ·exact⟨by omega,by omega⟩
  ·exact⟨by omega,by omega⟩
 ·rw[zan w r hi hj,zaq w r hi hj]
  have:=h.sub j hj
  refine⟨?_,this.2⟩
  split
  ·intro x hx
   rcases(e6 x).1 hx with hx|hx
   ·exact(h.sub _ hi).1 x hx
   ·exact(h.sub _ hk').1 x hx
  ·exact this.1
 ·rw[zan w r hi hj,zcE w r hi hj]
  intro m hm hmd
  have:=h.fresh j hj m hm hmd
  refine⟨this.1,fun h5=>?_⟩
  have:=this.2 h5
  split
  ·subst_vars;omega
  ·exact this
theorem zod{n:Nat}{M:List De}{w:Wd}(h:Inv n M w){o:Opn}(hk:o.kind%6=4):runW w o=w.setCopy (w.now o.i) o.i∧Inv (n+1) M (runW w o):=by
 have hi:=o.i_lt
 have e:runW w o=w.setCopy (w.now o.i) o.i:=by
  unfold runW
  rw[if_neg (by omega),if_pos hk]
 rw[e]
 refine⟨rfl,?_⟩
 have hl:=h.len
 refine⟨fun j hj=>?_,fun j hj=>?_,fun j hj=>?_,fun j hj=>?_,fun j hj=>?_,by omega,h.key,h.vd,fun j hj=>?_⟩
 ·rw[zbm w _ hi hj,zbr w _ hi hj]
  split
  ·subst_vars;exact⟨(h.id _ hj).1,(h.id _ hj).1⟩
  ·exact h.id _ hj
 ·rw[zbm w _ hi hj,zbr w _ hi hj,zgx w _ hi hj]
  have:=h.ep j hj
  split
  ·subst_vars;exact⟨this.1,by omega,this.2.2.1,by omega⟩
  ·exact⟨this.1,this.2.1,this.2.2.1,by omega⟩
 ·rw[zbm w _ hi hj,zbr w _ hi hj]
  split
  ·subst_vars;exact⟨(h.val _ hj).1,(h.val _ hj).1⟩
  ·exact h.val j hj
 ·rw[zbm w _ hi hj,zbr w _ hi hj]
  have:=h.nxt j hj
  split
  ·subst_vars;exact⟨by omega,by omega⟩
  ·exact⟨by omega,by omega⟩
 ·rw[zbm w _ hi hj,zbr w _ hi hj]
  split
  ·subst_vars;exact⟨(h.sub _ hj).1,(h.sub _ hj).1⟩
  ·exact h.sub j hj
 ·rw[zbm w _ hi hj,zgx w _ hi hj]
  exact h.fresh j hj
theorem ziG{n:Nat}{M:List De}{w:Wd}(h:Inv n M w)(hn:n≤40){o:Opn}(hk:o.kind%6=5):Inv (n+1) M (runW w o):=by
 have hi:=o.i_lt
 have hep:=h.ep o.i hi
 obtain⟨e1,e2⟩:=zkn (h.val o.i hi).2 (ep:=w.ep o.i+1) (by omega) (by omega)
 have e:runW w o=(w.setEp (w.ep o.i+1) o.i).setNow ⟨(w.copy o.i).id,w.ep o.i+1,(w.copy o.i).next,(w.copy o.i).edits⟩ o.i:=by
  unfold runW
  rw[if_neg (by omega),if_neg (by omega),if_pos hk,e1]
 rw[e]
 have hl:=h.len
 refine⟨fun j hj=>?_,fun j hj=>?_,fun j hj=>?_,fun j hj=>?_,fun j hj=>?_,by omega,h.key,h.vd,fun j hj=>?_⟩
 ·rw[zan _ _ hi hj,zaq _ _ hi hj,zcc w _ hi hj,zb3 w _ hi hj]
  split
  ·subst_vars;exact⟨(h.id _ hj).2,(h.id _ hj).2⟩
  ·exact h.id _ hj
 ·rw[zan _ _ hi hj,zaq _ _ hi hj,zcE _ _ hi hj,zcc w _ hi hj,zb3 w _ hi hj,zjF w _ hi hj]
  have:=h.ep j hj
  split
  ·subst_vars;exact⟨rfl,by omega,by omega,by omega⟩
  ·exact⟨this.1,this.2.1,this.2.2.1,by omega⟩
 ·rw[zan _ _ hi hj,zaq _ _ hi hj,zcc w _ hi hj,zb3 w _ hi hj]
  split
  ·subst_vars;exact⟨e2,(h.val _ hj).2⟩
  ·exact h.val j hj
 ·rw[zan _ _ hi hj,zaq _ _ hi hj,zcc w _ hi hj,zb3 w _ hi hj]
  have:=h.nxt j hj
  split
  ·subst_vars;exact⟨by show(w.copy o.i).next≤_;omega,by omega⟩
  ·exact⟨by omega,by omega⟩
 ·rw[zan _ _ hi hj,zaq _ _ hi hj,zcc w _ hi hj,zb3 w _ hi hj]
  split
  ·subst_vars;exact⟨(h.sub _ hj).2,(h.sub _ hj).2⟩
  ·exact h.sub j hj
 ·rw[zan _ _ hi hj,zcE _ _ hi hj,zcc w _ hi hj,zjF w _ hi hj]
  intro m hm hmd
  have h5:=h.fresh j hj m hm hmd
  split
  ·subst_vars
   exact⟨by omega,fun h6=>by omega⟩
  ·exact h5
theorem zql{n:Nat}{M:List De}{w:Wd}(h:Inv n M w)(hn:n≤40)(o:Opn):∃M',Inv (n+1) M' (runW w o):=by
 by_cases h3:o.kind%6=3
 ·obtain⟨r,_,h,_⟩:=zoc h hn h3
  exact⟨_,h⟩
 by_cases h4:o.kind%6=4
 ·exact⟨_,(zod h h4).2⟩
 by_cases h5:o.kind%6=5
 ·exact⟨_,ziG h hn h5⟩
 exact⟨_,(zqk h hn h3 h4 h5).2⟩
def playW(l:List Opn):Wd:=(l.take 12).foldl runW zbY
theorem zg3:∀(l:List Opn) (n:Nat) (M:List De) (w:Wd),Inv n M w→n+l.length≤40→∃M',Inv (n+l.length) M' (l.foldl runW w)
 |[],n,M,w,h,_=>⟨M,h⟩
 |o::l,n,M,w,h,hn=>by
  rw[List.length_cons] at hn
  obtain⟨M',h'⟩:=zql h (by omega) o
  obtain⟨M'',h''⟩:=zg3 l (n+1) M' (runW w o) h' (by omega)
  exact⟨M'',by rw[List.length_cons,show n+(l.length+1)=n+1+l.length by omega];exact h''⟩
theorem zoe(l:List Opn):∃n M,n≤12∧Inv n M (playW l):=by
 have hl:(l.take 12).length≤12:=by rw[List.length_take];omega
 obtain⟨M,h⟩:=zg3 (l.take 12) 0 [] zbY zhJ (by omega)
 exact⟨_,M,by omega,h⟩
def OpC(R:RO)(v:Value)(os:List Opn):Prop:=SlK R v 16 (os.map Opn.cells)∧(∀o∈os,o.ok)∧os.length≤1099511627776
theorem OpC.mono{R R':RO}{v:Value}{os:List Opn}(h:OpC R v os)(hle:RO.le R R'):OpC R' v os:=⟨SlK.mono h.1 hle,h.2⟩
theorem OpC.form{R:RO}{v:Value}{os:List Opn}(h:OpC R v os):∃a cap,v = .slice a os.length cap∧os.length≤cap∧∀i (hi:i<os.length),∃ad,a=some ad∧∀j u,((os[i]).cells)[j]?=some u→R ((ad.add (i*16)).add j) u:=by
 obtain⟨a,cap,rfl,hc,hf⟩:=SlK.form h.1
 rw[List.length_map] at hc
 refine⟨a,cap,by rw[List.length_map],hc,fun i hi=>?_⟩
 obtain⟨_,ad,ha,hR⟩:=hf i (by rw[List.length_map];exact hi)
 rw[List.getElem_map] at hR
 exact⟨ad,ha,hR⟩
def boxc(l:List Value):List SV:=l.map .val
def zpu:List Value:=[.int .i64 0,.int .i64 0,.int .i64 0,.slice none 0 0,.int .i64 0,.int .i64 0,.int .i64 0,.slice none 0 0,.int .i64 0,.int .i64 0,.int .i64 0,.slice none 0 0,.int .i64 0,.int .i64 0,.int .i64 0,.slice none 0 0,.int .i64 0,.int .i64 0,.int .i64 0,.slice none 0 0,.int .i64 0,.int .i64 0,.int .i64 0,.slice none 0 0,.int .i64 0,.int .i64 0,.int .i64 0]
theorem zcd(l:List Value)(n:Nat):(boxc l).all (SV.ok n)=true:=by
 unfold boxc
 rw[List.all_map,List.all_eq_true]
 intro _ _
 rfl
theorem zko(os:List Opn)(i:Nat)(hi:i<os.length):(os.take (i+1)).foldl runW zbY=runW ((os.take i).foldl runW zbY) os[i]:=by
 rw[List.take_succ_eq_append_getElem hi,List.foldl_append];rfl
theorem zof(os:List Opn)(i:Nat)(hi:i≤40):∃n M,n≤40∧Inv n M ((os.take i).foldl runW zbY):=by
 have hl:(os.take i).length≤40:=by rw[List.length_take];omega
 obtain⟨M,h⟩:=zg3 (os.take i) 0 [] zbY zhJ (by omega)
 exact⟨_,M,by omega,h⟩
theorem Inv.eps{n:Nat}{M:List De}{w:Wd}(h:Inv n M w)(hn:n≤40):∀i,0≤w.ep i∧w.ep i≤1000000:=fun i=>by
 have h0:=h.ep 0 (by omega)
 have h1:=h.ep 1 (by omega)
 have h2:=h.ep 2 (by omega)
 match i with
 |0=>omega
 |1=>omega
 |i+2 =>
  show 0≤w.e2∧w.e2≤1000000
  have:w.ep 2=w.e2:=rfl
  omega
def mv0:Mv:=⟨0,false,0,0,0⟩
theorem zqm{l o s:List De}(h0:l.length≤4096)(h:distD [] l=some o)(hp:s.Perm o)(hs:zae s):allD l = .ok s:=by
 unfold allD
 rw[if_neg (by omega),h]
 show Except.ok (sortD o)=_
 rw[←zjk (zcz h List.Pairwise.nil) hp (hs.imp fun h=>zdG h)]
theorem Cons.sub{l l':List De}(h:Cons l)(hs:∀d∈l',d∈l):Cons l':=⟨fun d hd=>h.1 d (hs d hd),fun a ha b hb=>h.2 a (hs a ha) b (hs b hb)⟩
/-! ### heard -/
/-- A device that has heard from the devices below k. -/
structure HearK (n:Nat) (w:Wd) (i k:Nat) (d:Dv):Prop where
 id:d.id=(w.now i).id
 ep:d.epoch=(w.now i).epoch
 val:zah d=true
 nxt:d.next≤1+n
 own:∀e∈(w.now i).edits,e∈d.edits
 hs:∀j:Nat,j<k→∀e∈(w.now j).edits,e∈d.edits
 sub:∀e∈d.edits,∃j:Nat,j<3∧e∈(w.now j).edits
theorem HearK.start{n:Nat}{M:List De}{w:Wd}(h:Inv n M w){i:Nat}(hi:i<3):HearK n w i 0 (w.now i) :=
 ⟨rfl,rfl,(h.val i hi).1,(h.nxt i hi).1,fun _ h=>h,fun j hj=>absurd hj (by omega),fun e he=>⟨i,hi,he⟩⟩
theorem HearK.step{n:Nat}{M:List De}{w:Wd}(h:Inv n M w)(hn:n≤40){i k:Nat}(hk:k<3){d:Dv}(hd:HearK n w i k d):∃r,zaC d (w.now k) = .ok r∧HearK n w i (k+1) r:=by
 have hl:=h.len
 obtain⟨r,e1,e2,e3,e4,e5,e6⟩:=zg2 (B:=1+n) hd.val (h.val k hk).1 (M:=M) (fun e he=>by obtain⟨j,hj,hx⟩:=hd.sub e he;exact(h.sub j hj).1 e hx) (h.sub k hk).1 h.key (by omega) (by omega) hd.nxt (h.nxt k hk).1
 have hr:r.id=d.id∧r.epoch=d.epoch:=by rw[e2];exact⟨rfl,rfl⟩
 refine⟨r,e1,hr.1.trans hd.id,hr.2.trans hd.ep,e3,e5,fun e he=>(e6 e).2 (.inl (hd.own e he)),fun j hj e he=>(e6 e).2 ?_,fun e he=>?_⟩
 ·by_cases hjk:j=k
  ·subst hjk;exact .inr he
  ·exact .inl (hd.hs j (by omega) e he)
 ·rcases(e6 e).1 he with h|h
  ·exact hd.sub e h
  ·exact⟨k,hk,h⟩
theorem ziH{d:Dv}(h:zah d=true):Cons d.edits:=by
 have h3:=zas h
 refine⟨fun e he=>(h3.1 e he).1,fun a ha b hb hk=>?_⟩
 have hp:KeysD d.edits:=h3.2.imp fun h=>zaE h
 exact hp.eq ha hb hk
/-! ### Records: each overruled edit has exactly one (plain) -/
/-- How often a record names this edit. -/
def zdt(o l:List De)(x:De):Nat:=(l.filterMap fun a=>(o.find? (overD a)).map (ovOf a)).countP fun r=>decide (r.device=x.device)&&decide (r.seq=x.seq)
theorem zd5(o:List De)(x:De):∀l:List De,(∀a∈l,keyEq a x=false)→zdt o l x=0
 |[],_=>rfl
 |a::l,h=>by
  have ih:=zd5 o x l fun b hb=>h b (by simp[hb])
  unfold zdt at ih ⊢
  rw[List.filterMap_cons]
  cases hf:(o.find? (overD a)).map (ovOf a) with
  |none=>exact ih
  |some r =>
   obtain⟨b,_,rfl⟩:=Option.map_eq_some_iff.1 hf
   have hk:=h a (by simp)
   dsimp only
   rw[List.countP_cons_of_neg,ih]
   intro hd
   simp only[Bool.and_eq_true,decide_eq_true_eq] at hd
   have:keyEq a x=true:=(keyEq_iff a x).2 ⟨hd.1,hd.2⟩
   rw[hk] at this
   cases this
theorem zeJ(o:List De)(x:De):∀l:List De,KeysD l→x∈l→zdt o l x=if o.any (overD x)=true then 1 else 0
 |[],_,h=>by simp at h
 |a::l,hk,h=>by
  have hk':=List.pairwise_cons.1 hk
  unfold zdt
  rw[List.filterMap_cons]
  rcases List.mem_cons.1 h with rfl|h
  ·have hn:=zd5 o x l fun b hb=>by rw[zay];exact hk'.1 b hb
   unfold zdt at hn
   cases hf:o.find? (overD x) with
   |none =>
    have:o.any (overD x)=false:=List.any_eq_false.2 fun b hb=>List.find?_eq_none.1 hf b hb
    rw[this]
    exact hn
   |some b =>
    have h1:b∈o:=List.mem_of_find?_eq_some hf
    have h2:overD x b=true:=List.find?_some hf
    have:o.any (overD x)=true:=List.any_eq_true.2 ⟨b,h1,h2⟩
    rw[this]
    simp only[Option.map_some]
    rw[List.countP_cons_of_pos,hn]
    ·rfl
    ·simp[ovOf]
  ·have hax:keyEq a x=false:=hk'.1 x h
   have ih:=zeJ o x l hk'.2 h
   unfold zdt at ih
   cases hf:(o.find? (overD a)).map (ovOf a) with
   |none=>exact ih
   |some r =>
    obtain⟨b,_,rfl⟩:=Option.map_eq_some_iff.1 hf
    dsimp only
    rw[List.countP_cons_of_neg,ih]
    intro hd
    simp only[Bool.and_eq_true,decide_eq_true_eq] at hd
    have:keyEq a x=true:=(keyEq_iff a x).2 ⟨hd.1,hd.2⟩
    rw[hax] at this
    cases this
theorem zkp{o:List De}(hs:zae o){x:De}(hx:x∈o):(∃y∈forceD o,keyEq x y=true)↔o.any (overD x)=false:=by
 have hko:KeysD o:=hs.imp fun h=>zaE h
 constructor
 ·rintro⟨y,hy,hk⟩
  obtain⟨h1,h2⟩:=zaS.1 hy
  have:x=y:=hko.eq hx h1 hk
  subst this
  exact List.any_eq_false.2 fun b hb=>by rw[h2 b hb];simp
 ·intro h
  refine⟨x,zaS.2 ⟨hx,fun b hb=>?_⟩,zkl x⟩
  have:=List.any_eq_false.1 h b hb
  simpa using this
end Go.Proofs.YtdgndfabdmecmaaGreat
namespace Go.Proofs.YtdgndfabdmecmaaGreat
open Go.Proofs.YtdgndfabdmecmaaGreat.Vc
/-! ### All edits of a played world are like made ones -/
def WMd(w:Wd):Prop:=∀i:Nat,i<3→(∀e∈(w.now i).edits,MdD e)∧∀e∈(w.copy i).edits,MdD e
theorem zog{d:Dv}{e:De}(h:MdD e):MdD (zbC d e):=⟨h.rule,h.minute,h.length,h.zone⟩
theorem zl0:WMd zbY:=fun i hi=>by
 rcases lt3 hi with rfl|rfl|rfl<;>exact⟨fun e he=>(by cases he),fun e he=>(by cases he)⟩
theorem zeq{w:Wd}(h:WMd w){d:Dv}(hd:∀e∈d.edits,MdD e){i:Nat}(hi:i<3):WMd (w.setNow d i):=fun j hj=>by
 rw[zan w d hi hj,zaq w d hi hj]
 refine⟨?_,(h j hj).2⟩
 split
 ·exact hd
 ·exact(h j hj).1
theorem zqn{w:Wd}(h:WMd w)(o:Opn):WMd (runW w o):=by
 have hi:=o.i_lt
 have hk:=o.k_lt
 unfold runW
 split
 ·cases hs:zaC (w.now o.i) (w.now o.k) with
  |error e=>exact h
  |ok r =>
   refine zeq h (fun e he=>?_) hi
   unfold zaC at hs
   split at hs
   ·rename_i hv
    split at hs
    ·split at hs
     ·cases hs
     ·cases hs
      have hm:=(zcb (zas hv.1).2 (zas hv.2).2).2 e
      rcases hm.1 he with h1|h1
      ·exact(h _ hi).1 e h1
      ·exact(h _ hk).1 e h1.1
    ·cases hs
   ·cases hs
 split
 ·intro j hj
  rw[zbm w _ hi hj,zbr w _ hi hj]
  refine⟨(h j hj).1,?_⟩
  split
  ·exact(h _ hi).1
  ·exact(h j hj).2
 split
 ·cases hs:za1 (w.copy o.i) (w.ep o.i+1) with
  |error e=>exact h
  |ok r =>
   have h':WMd (w.setEp (w.ep o.i+1) o.i):=fun j hj=>by rw[zcc w _ hi hj,zb3 w _ hi hj];exact h j hj
   refine zeq h' (fun e he=>?_) hi
   unfold za1 at hs
   split at hs
   ·split at hs
    ·cases hs
    ·cases hs;exact(h _ hi).2 e he
   ·cases hs
 ·cases hs:dvAdd (w.now o.i) (madeE o.ed) with
  |error e=>exact h
  |ok r =>
   refine zeq h (fun e he=>?_) hi
   unfold dvAdd at hs
   split at hs
   ·split at hs
    ·cases hs
    ·cases hs
     rcases List.mem_append.1 he with h1|h1
     ·exact(h _ hi).1 e h1
     ·simp only[List.mem_cons,List.not_mem_nil,or_false] at h1
      subst h1;exact zog (zn5 _)
   ·cases hs
theorem zjG:∀(l:List Opn) (w:Wd),WMd w→WMd (l.foldl runW w)
 |[],_,h=>h
 |o::l,w,h=>zjG l _ (zqn h o)
theorem zoh(l:List Opn):WMd (playW l):=zjG _ _ zl0
/-! ### Counting -/
theorem zkq(o:List De):(forceD o).length+(recsD o).length=o.length:=zdB o o
def kf(x d:De):Bool:=decide (d.device=x.device)&&decide (d.seq=x.seq)
def kr(x:De)(r:Ov):Bool:=decide (r.device=x.device)&&decide (r.seq=x.seq)
theorem zl1(x d:De):kf x d=keyEq d x:=by unfold kf keyEq;simp
theorem zgy{x:De}:∀{l:List De},KeysD l→(l.countP (kf x))=if l.any (kf x)=true then 1 else 0
 |[],_=>rfl
 |a::l,h=>by
  have h':=List.pairwise_cons.1 h
  have ih:=zgy (x:=x) h'.2
  rw[List.countP_cons,ih,List.any_cons]
  cases ha:kf x a with
  |false=>simp
  |true =>
   have:l.any (kf x)=false:=List.any_eq_false.2 fun b hb=>by
    rw[zl1] at ha ⊢
    intro hbx
    have:=h'.1 b hb
    rw[keyEq_iff] at ha hbx
    rw[←Bool.not_eq_true,keyEq_iff] at this
    exact this ⟨ha.1.trans hbx.1.symm,ha.2.trans hbx.2.symm⟩
   rw[this];simp
theorem zl2{o:List De}(hs:zae o){x:De}(hx:x∈o):(forceD o).countP (kf x)+(recsD o).countP (kr x)=1:=by
 have hk:KeysD o:=hs.imp fun h=>zaE h
 have hkf:KeysD (forceD o):=(zd0 hs).imp fun h=>zaE h
 have h1:=zeJ o x o hk hx
 have h2:=zkp hs hx
 have h3:(recsD o).countP (kr x)=if o.any (overD x)=true then 1 else 0:=h1
 rw[h3,zgy hkf]
 have h4:(forceD o).any (kf x)=true↔o.any (overD x)=false:=by
  rw[←h2,List.any_eq_true]
  constructor
  ·rintro⟨y,hy,h⟩;exact⟨y,hy,by rw[zay,←zl1];exact h⟩
  ·rintro⟨y,hy,h⟩;exact⟨y,hy,by rw[zl1,zay];exact h⟩
 cases hb:o.any (overD x) with
 |true =>
  have:¬ (forceD o).any (kf x)=true:=fun h=>by rw[h4,hb] at h;cases h
  rw[if_neg this,if_pos rfl]
 |false =>
  rw[if_pos (h4.2 hb),if_neg (by simp)]
/-! ### What is shown on a day -/
/-- Up to i, the last part that begins by day x; -1 if there is none. -/
def lastI(pp:List Pa)(x:Int):Nat→Int
 |0 => -1
 |i+1=>if h:i<pp.length then(if(pp[i]).day≤x then(i:Int) else lastI pp x i) else lastI pp x i
theorem zjH(pp:List Pa)(x:Int):∀n,lastI pp x n<n ∧ -1≤lastI pp x n∧lastI pp x n<(pp.length:Int)
 |0=>by unfold lastI;omega
 |n+1=>by
  have ih:=zjH pp x n
  unfold lastI
  split
  ·split
   ·omega
   ·omega
  ·omega
theorem zjI{pp:List Pa}{x:Int}{a:Nat}(h1:∀i (hi:i<pp.length),i≤a→(pp[i]).day≤x)(h2:∀j,a<j→(hj:j<pp.length)→x<(pp[j]).day):∀n,0<n→n≤pp.length→lastI pp x n=min a (n-1:Nat)
 |0,h,_=>by omega
 |n+1,_,hn=>by
  rw[lastI,dif_pos (by omega)]
  by_cases h:n≤a
  ·rw[if_pos (h1 n (by omega) h)];omega
  ·rw[if_neg (by have:=h2 n (by omega) (by omega);omega)]
   rcases Nat.eq_zero_or_pos n with rfl|h0
   ·omega
   ·rw[zjI h1 h2 n h0 (by omega)];omega
def showP(k:Ck)(p:Pa)(x:Int):List Ins:=if p.ti.length=0 then[] else onC k p.moves p.ti.minute p.ti.length p.ti.gap p.ti.fold x
theorem zkr(s:Se)(rl:List Nd){o:List De}(hs:zae o)(hv:∀d∈o,zak d=true)(hl:1≤s.length){x:Int}{a:Nat}(ha:a<(mergeP s rl [] o).length)(h1:((mergeP s rl [] o)[a]).day≤x)(h2:∀j,a<j→(hj:j<(mergeP s rl [] o).length)→x<((mergeP s rl [] o)[j]).day)
  {d:De} (hd:d∈forceD o) (hk:d.kind=1) (hx:d.day=x):mvOnT ((mergeP s rl [] o)[a]).moves x=some d.mv:=by
 rw[zn8 s rl hs hv hl ha h1 h2]
 have hvf:∀d∈forceD o,zak d=true:=fun d hd=>hv d (zaS.1 hd).1
 cases hlo:zaL (zav x) (forceD o) with
 |none =>
  have:=zfg hlo d hd
  simp[zav,hk,hx] at this
 |some c =>
  obtain⟨hc,hp⟩:=zaz hlo
  simp only[zav,Bool.and_eq_true,decide_eq_true_eq] at hp
  have hne:=zfe (ms:=[]) (e:=endE (forceD o)) hs hv rfl
  have h3:=(zaO (hvf d hd) hk).2
  have h4:=(zaO (hvf c hc) hp.1).2
  have hm:∀{y:De},y∈forceD o→y.kind=1→y.mv∈movesD [] (forceD o) (endE (forceD o)):=fun hy hk=>List.mem_append_left _ (List.mem_map_of_mem (List.mem_filter.2 ⟨hy,by simp[zcl,hk]⟩))
  exact congrArg some (zbA (f:=Mv.day) hne (hm hc hp.1) (hm hd hk) (by rw[h3,h4,hx,hp.2]))
theorem zl3{k:Ck}{p:Pa}{x:Int}{m:Mv}(h:mvOnT p.moves x=some m):(m.drop=true→showP k p x=[])∧∀y∈showP k p x,y.t-y.f=m.length:=by
 unfold showP
 split
 ·exact⟨fun _=>rfl,fun y hy=>by cases hy⟩
 ·unfold onC
  rw[h]
  dsimp only
  refine⟨fun hd=>by rw[if_pos hd],fun y hy=>?_⟩
  split at hy
  ·cases hy
  ·obtain⟨t,_,rfl⟩:=List.mem_map.1 hy
   dsimp only;omega
/-! ### After hearing from the two others -/
structure AllK (w:Wd) (n:Nat) (d:Dv):Prop where
 val:zah d=true
 mem:∀x,x∈d.edits↔∃q,q<3∧x∈(w.now q).edits
 len:d.edits.length≤n
theorem AllK.same{w:Wd}{n:Nat}{d d':Dv}(h:AllK w n d)(h':AllK w n d'):d.edits=d'.edits :=
 zae.ext (zas h.val).2 (zas h'.val).2 fun x=>by rw[h.mem,h'.mem]
theorem sync2{n:Nat}{M:List De}{w:Wd}(hI:Inv n M w)(hn:n≤40){i j k:Nat}(hi:i<3)(hj:j<3)(hk:k<3)(hall:∀q,q<3→q=i∨q=j∨q=k) :
  ∃d1 d2,zaC (w.now i) (w.now j) = .ok d1∧zaC d1 (w.now k) = .ok d2∧AllK w n d2:=by
 have hl:=hI.len
 obtain⟨d1,e1,_,v1,_,n1,m1⟩:=zg2 (B:=1+n) (hI.val i hi).1 (hI.val j hj).1 (hI.sub i hi).1 (hI.sub j hj).1 hI.key (by omega) (by omega) (hI.nxt i hi).1 (hI.nxt j hj).1
 have hs1:∀e∈d1.edits,e∈M:=fun e he=>by
  rcases(m1 e).1 he with h|h
  ·exact(hI.sub i hi).1 e h
  ·exact(hI.sub j hj).1 e h
 obtain⟨d2,e2,_,v2,_,n2,m2⟩:=zg2 (B:=1+n) v1 (hI.val k hk).1 hs1 (hI.sub k hk).1 hI.key (by omega) (by omega) n1 (hI.nxt k hk).1
 refine⟨d1,d2,e1,e2,v2,fun x=>?_,?_⟩
 ·rw[m2,m1]
  constructor
  ·rintro((h|h)|h)
   ·exact⟨i,hi,h⟩
   ·exact⟨j,hj,h⟩
   ·exact⟨k,hk,h⟩
  ·rintro⟨q,hq,h⟩
   rcases hall q hq with rfl|rfl|rfl
   ·exact .inl (.inl h)
   ·exact .inl (.inr h)
   ·exact .inr h
 ·refine Nat.le_trans ((zas v2).2.len (M:=M) fun x hx=>?_) hl
  rcases(m2 x).1 hx with h|h
  ·exact hs1 x h
  ·exact(hI.sub k hk).1 x h
set_option maxHeartbeats 4000000 in
theorem zpv(P:List Pa)(u:Value)(z:Zv)(k:Ck)(hk:CkOK k)(x:Int)(hx:0≤x∧x≤1099511627776)(R:RO)(hP:zdz R u P)(hO:OpenC R z k)(hz:z.tn≤512)(hok:∀p∈P,PaOK p){a:Nat}(ha:a<P.length)(h1:∀i (hi:i<P.length),i≤a→(P[i]).day≤x)(h2:∀j,a<j→(hj:j<P.length)→x<(P[j]).day) :
  zaa Tryz.prog 19 [u,.agg z.cells.toArray,.int .i64 x] R fun R' r=>∃v,r = .tuple #[v,.bool true]∧EncV Ins.cells 3 R' v (showP k P[a] x):=by
 have hPl:P.length≤1000000000:=by obtain⟨_,_,_,_,h⟩:=hP;exact h
 obtain⟨pa,pc,rfl,hpc,hpf⟩:=hP.form
 obtain⟨ad,ra,rn,rc,ma,mc,had,hRa,hra,hma⟩:=hpf a ha
 have hpok:=hok P[a] (List.getElem_mem _)
 simp only[Zv.cells]
 refine zac mix Tryz.func19 comp19 (by simp[Tryz.ntmps19]) ?_;simp only[go_sem,vc19,rs19]
 refine zaj Nat (fun i=>[(9,.val (.int .i64 i)),(8,.val (.int .i64 (lastI P x i))),(0,.val (.slice pa P.length pc)),(2,.val (.int .i64 x)),(4,.loc 0 0)]) (fun _=>[.box [.val (.int .i64 z.ep),.val (.slice z.ma z.mn z.mc),.val (.int .i64 z.leap),.val (.slice z.ra z.rn z.rc),.val (.int .i64 z.start),.val (.slice z.ta z.tn z.tc),.val (.int .i64 z.hor),.val (.slice z.ya z.yn z.yc)]]) (fun i _=>i≤P.length) (fun i=>P.length-i) 0 ?_ ?_ ?_ ?_
 ·(try simp only[go_sem,↓reduceIte,Qa,reduceCtorEq])<;>(repeat' (first|rfl|trivial|constructor|(intro h;exact absurd rfl h)))
 ·try simp only[go_sem,Qe,Qf]
 ·exact Nat.zero_le _
 rintro i env R1 hle1 hE hi
 have hlb:=zjH P x i
 (simp only[go_sem] at hE;obtain⟨e9,e8,e0,e2,e4⟩:=hE;simp only[go_sem,↓reduceIte,Qa,Qb,reduceCtorEq,e9,e8,e0];dsimp only at *)
 refine⟨fun hlt=>?_,fun hge=>?_⟩
 ·have hlt':i<P.length:=by omega
  obtain⟨adi,ra',rn',rc',ma',mc',hadi,hRi,_,_⟩:=hpf i hlt'
  refine⟨by omega,vat adi hadi ?_⟩
  try simp only[go_sem,↓reduceIte]
  refine vload (.int .i64 (P[i]).day) (hle1 _ _ (by have:=hRi 0 _ rfl;rwa [Addr.add_zero'] at this)) ?_
  try simp only[go_sem,↓reduceIte,Qa,Qe,Qf,reduceCtorEq,e9,e8,e0,e2,e4]
  have hw:lastI P x (i+1)=if(P[i]).day≤x then(i:Int) else lastI P x i:=by rw[lastI,dif_pos hlt']
  refine⟨fun hle=>?_,fun hgt=>?_⟩
  ·rw[if_pos hle] at hw
   exact⟨_,W.in64 (by omega),i+1,by omega,by rw[hw];exact⟨by norm_cast,rfl⟩,by omega⟩
  ·rw[if_neg hgt] at hw
   exact⟨_,W.in64 (by omega),i+1,by omega,by rw[hw];norm_cast,by omega⟩
 ·obtain rfl:i=P.length:=by omega
  have hla:lastI P x P.length=(a:Int):=by rw[zjI h1 h2 P.length (by omega) (Nat.le_refl _)];omega
  rw[hla] at e8 ⊢
  refine⟨fun h0=>absurd h0 (by omega),fun _=>⟨by omega,by omega,?_⟩⟩
  rw[Int.toNat_natCast]
  refine vat ad had ?_
  try simp only[go_sem,↓reduceIte,Qb]
  refine vload (.int .i64 (P[a]).ti.length) (hle1 _ _ (hRa 3 _ rfl)) ?_
  try simp only[go_sem,↓reduceIte,Qa,reduceCtorEq,e8,e0]
  refine⟨fun hz0=>?_,fun hnz=>⟨by omega,?_⟩⟩
  ·exact⟨_,rfl,by rw[showP,if_pos hz0];exact EncV.nil _ _ _⟩
  refine vat ad had ?_
  try simp only[go_sem,↓reduceIte]
  refine zaf (Se.cells ⟨.slice ra rn rc,(P[a]).ti.minute,(P[a]).ti.length,(P[a]).ti.zone,(P[a]).ti.gap,(P[a]).ti.fold,.slice ma (P[a]).moves.length mc⟩) rfl (fun j u hj=>?_) ?_
  ·have:=hle1 _ _ (hRa (1+j) u (by rw[Nat.add_comm];exact hj))
   rw[←zdk] at this
   exact this
  simp only[go_sem,↓reduceIte,Qa,Qb,Se.cells,e2,e4]
  have htk:TiOK (P[a]).ti:=hpok.ti.resolve_left fun e=>hnz (by rw[e];rfl)
  obtain⟨nd,hnd,hse⟩:=htk.se (.slice ra rn rc) (.slice ma (P[a]).moves.length mc) hpok.mv hpok.asc hpok.len
  have hOn:=sOn ⟨.slice ra rn rc,(P[a]).ti.minute,(P[a]).ti.length,(P[a]).ti.zone,(P[a]).ti.gap,(P[a]).ti.fold,.slice ma (P[a]).moves.length mc⟩ nd (P[a]).moves z k hk hse x hx R1 (hnd▸hra.mono hle1) (hma.mono hle1) (hO.mono hle1) hz
  simp only[Se.cells,Zv.cells] at hOn
  refine vcall hOn ?_
  rintro R2 r hle2 ⟨u1,rfl,hu1⟩
  obtain⟨u1a,u1c,rfl,_⟩:=hu1.form
  try simp only[go_sem,↓reduceIte,Qa]
  exact⟨_,rfl,by rw[showP,if_neg hnz];exact hu1⟩
def k1:De:=⟨2,3,0,0,mv0,5,10,[],⟨#[]⟩⟩
def k2:De:=⟨5,9,0,0,mv0,0,0,[],⟨#[]⟩⟩
def x1:De:=⟨2,3,1,64,mv0,5,10,[],⟨#[]⟩⟩
def x2:De:=⟨5,9,2,64,mv0,0,0,[],⟨#[]⟩⟩
theorem ksA:dvNew 1 = .ok ⟨1,0,1,[]⟩:=by kernel_rfl
theorem ksB:dvNew 2 = .ok ⟨2,0,1,[]⟩:=by kernel_rfl
theorem ksC:dvAdd ⟨1,0,1,[]⟩ k1 = .ok ⟨1,0,2,[x1]⟩:=by kernel_rfl
theorem ksD:dvAdd ⟨2,0,1,[]⟩ k2 = .ok ⟨2,0,2,[x2]⟩:=by kernel_rfl
theorem ksE:zaC ⟨1,0,2,[x1]⟩ ⟨2,0,2,[x2]⟩ = .ok ⟨1,0,2,[x1,x2]⟩:=by kernel_rfl
theorem ksF:zaC ⟨2,0,2,[x2]⟩ ⟨1,0,2,[x1]⟩ = .ok ⟨2,0,2,[x1,x2]⟩:=by kernel_rfl
theorem ksV:zah ⟨1,0,2,[x1,x2]⟩=true∧zah ⟨2,0,2,[x1,x2]⟩=true:=by decide +kernel
theorem ksAll:allD [x1,x2] = .ok [x1,x2]:=zqm (o:=[x1,x2]) (by decide) (by decide) (List.Perm.refl _) (by unfold zae;decide)
theorem zl4:forceD [x1,x2]=[x1,x2]∧endE [x1,x2]=9∧recsD [x1,x2]=[]:=by decide
theorem ksParts(s:Se)(h:s.minute=60):(mergeP s [zap 1] [] [x1,x2]).length=3:=by
 rw[zdq,zl4.1,zl4.2.1]
 have h1:rising (0::[x1,x2].map (·.day))=[0,3,9]:=by decide
 unfold zaQ
 rw[h1,zbz (by decide),←List.nil_append [(0,_)]]
 rw[zb8 (by decide),zb7 (by decide)]
 ·rfl
 ·simp[zb6,tiOn,onE,zbq,x1,x2,Se.on,h]
theorem zl5{R:RO}{b cap:Nat}(hrow:RowIn R b [.int .i64 1,.int .i64 0,.int .i64 0,.int .i64 0,.int .i64 1,.int .i64 0,.slice none 0 0,.string ⟨#[]⟩])(hcap:8≤cap*8):RuleV R (.slice (some ⟨b,0,none⟩) 1 cap) [zap 1]:=by
 refine⟨[[.int .i64 1,.int .i64 0,.int .i64 0,.int .i64 0,.int .i64 1,.int .i64 0,.slice none 0 0,.string ⟨#[]⟩]],?_,rfl,?_,by decide⟩
 ·exact RowIn.slK (k:=8) (xs:=[[.int .i64 1,.int .i64 0,.int .i64 0,.int .i64 0,.int .i64 1,.int .i64 0,.slice none 0 0,.string ⟨#[]⟩]]) hrow (by simp) (by omega) (by simpa using hcap)
 ·intro i c x hc hx
  cases i with
  |zero =>
   simp only[List.getElem?_cons_zero,Option.some.injEq,zap] at hc hx
   subst hc hx
   exact⟨_,rfl,Ints.nil _,by simp⟩
  |succ i=>simp at hc
set_option maxRecDepth 100000 in
set_option maxHeartbeats 8000000 in
theorem zl6(R:RO):zaa Tryz.prog 15 [] R fun _ v=>v = .bool true:=by
 refine zac mix Tryz.func15 comp15 (by simp[Tryz.ntmps15]) ?_;simp only[go_sem,vc15,rs15]
 refine vcall (dNew 1 R) ?_
 intro R1 r h1 hr
 rw[ksA] at hr
 obtain⟨va,rfl,wa⟩:=hr
 obtain⟨aa,ca,rfl,_⟩:=wa.form
 simp only[zai]
 try simp only[go_sem,↓reduceIte,Qa,Qb]
 refine vcall (dNew 2 R1) ?_
 intro R2 r h2 hr
 rw[ksB] at hr
 obtain⟨vb,rfl,wb⟩:=hr
 obtain⟨ab,cb,rfl,_⟩:=wb.form
 simp only[zai]
 try simp only[go_sem,↓reduceIte,Qa,Qb,Qd]
 refine vcall (dAdd ⟨1,0,1,[]⟩ _ k1 none 0 0 R2 (wa.mono h2) (RuleV.nil _)) ?_
 intro R3 r h3 hr
 rw[ksC] at hr
 obtain⟨vc,rfl,wc⟩:=hr
 obtain⟨ac,cc,rfl,_⟩:=wc.form
 simp only[zai]
 try simp only[go_sem,↓reduceIte,Qa,Qb,Qd]
 refine vcall (dAdd ⟨2,0,1,[]⟩ _ k2 none 0 0 R3 (wb.mono h3) (RuleV.nil _)) ?_
 intro R4 r h4 hr
 rw[ksD] at hr
 obtain⟨vd,rfl,wd⟩:=hr
 obtain⟨ad,cd,rfl,_⟩:=wd.form
 simp only[zai]
 try simp only[go_sem,↓reduceIte,Qa,Qb]
 refine vcall (dSync ⟨1,0,2,[x1]⟩ ⟨2,0,2,[x2]⟩ _ _ R4 (wc.mono h4) wd) ?_
 intro R5 r h5 hr
 rw[ksE] at hr
 obtain⟨ve,rfl,we⟩:=hr
 obtain⟨ae,ce,rfl,_⟩:=we.form
 simp only[zai]
 try simp only[go_sem,↓reduceIte,Qa,Qb]
 refine vcall (dSync ⟨2,0,2,[x2]⟩ ⟨1,0,2,[x1]⟩ _ _ R5 (wd.mono h5) (wc.mono (RO.le_trans h4 h5))) ?_
 intro R6 r h6 hr
 rw[ksF] at hr
 obtain⟨vf,rfl,wf⟩:=hr
 obtain⟨af,cf,rfl,_⟩:=wf.form
 simp only[zai]
 try simp only[go_sem,↓reduceIte,Qa,Qb,Qd]
 intro b7 cap7 R7 h7 hrow7 hcap7 hfr7
 refine vcall (ziF ⟨.slice (some ⟨b7,0,none⟩) 1 cap7,60,60,zA,0,0,.slice none 0 0⟩ [zap 1] [] ⟨1,0,2,[x1,x2]⟩ _ R7 (zl5 hrow7 hcap7) (EncV.nil _ _ _) (we.mono (RO.le_trans h6 h7)) (by simp)) ?_
 intro R8 r h8 hr
 unfold SerV zdA at hr
 rw[if_pos ksV.1,ksAll] at hr
 dsimp only at hr
 rw[if_neg (by simp[zaR])] at hr
 obtain⟨p1,q1,rfl,hp1,hq1⟩:=hr
 have hp1':=hp1
 obtain⟨p1a,p1c,rfl,_⟩:=hp1'.form
 obtain⟨q1a,q1c,rfl,_⟩:=hq1.form
 try simp only[go_sem,↓reduceIte,Qa,Qb,Qd]
 intro b9 cap9 R9 h9 hrow9 hcap9 hfr9
 refine vcall (ziF ⟨.slice (some ⟨b9,0,none⟩) 1 cap9,60,60,zA,0,0,.slice none 0 0⟩ [zap 1] [] ⟨2,0,2,[x1,x2]⟩ _ R9 (zl5 hrow9 hcap9) (EncV.nil _ _ _) (wf.mono (RO.le_trans h7 (RO.le_trans h8 h9))) (by simp)) ?_
 intro R10 r h10 hr
 unfold SerV zdA at hr
 rw[if_pos ksV.2,ksAll] at hr
 dsimp only at hr
 rw[if_neg (by simp[zaR])] at hr
 obtain⟨p2,q2,rfl,hp2,hq2⟩:=hr
 have hp2':=hp2
 obtain⟨p2a,p2c,rfl,_⟩:=hp2'.form
 obtain⟨q2a,q2c,rfl,_⟩:=hq2.form
 have hl3:((mergeP ⟨.slice (some ⟨b7,0,none⟩) 1 cap7,60,60,zA,0,0,.slice none 0 0⟩ [zap 1] [] [x1,x2]).length:Int)=3:=congrArg Int.ofNat (ksParts ⟨.slice (some ⟨b7,0,none⟩) 1 cap7,60,60,zA,0,0,.slice none 0 0⟩ rfl)
 try simp only[go_sem,↓reduceIte,Qa,hl3]
 refine vcall (zj7 _ _ _ _ R10 (hp1.mono (RO.le_trans h9 h10)) hp2) ?_
 rintro R11 v hle11 rfl
 rw[decide_eq_true (by rfl)]
 try simp only[go_sem,↓reduceIte,Qa]
theorem EdC.nil(R:RO):EdC R (.slice none 0 0) []:=⟨none,0,rfl,Nat.le_refl _,fun i us h=>by simp at h⟩
theorem ziI:zgU []=[]:=by decide
end Go.Proofs.YtdgndfabdmecmaaGreat
