/- Lemmas of our own, no statement of the seat; the last one of the claim's texts proves the law. -/
import Derived.Test.YtdgndfabdmecmaaGreatBxc
import Derived.Test.YtdgndfabdmecmaaGreatVcI
open Nat renaming reduceEqDiff → Qa, reduceAdd → Qb, reduceMul → Qc, reduceLeDiff → Qd, reduceLT → Qe, reduceBNe → Qf
open Int renaming reduceLE → Ja, reduceLT → Jb, reduceToNat → Jc, cast_ofNat_Int → Jd, reduceEq → Je, reduceNe → Jf
set_option linter.unusedSimpArgs false
set_option linter.unusedVariables false
namespace Go.Proofs.YtdgndfabdmecmaaGreat
set_option linter.unusedSectionVars false
variable [Go.Proofs.YtdgndfabdmecmaaGreat.Vc.Drew]
open Go.Proofs.YtdgndfabdmecmaaGreat.Vc
def forceD(all:List De):List De:=all.filter fun a => !(all.any (overD a))
def ovOf(a b:De):Ov:=⟨a.device,a.seq,b.device,b.seq⟩
def recsD(all:List De):List Ov:=all.filterMap fun a=>(all.find? (overD a)).map (ovOf a)
theorem zgP{p:De→Bool}:∀{l:List De} {i:Nat},l.any p=false→idxE p i l = -1
 |[],_,_=>rfl
 |d::l,i,h=>by
  simp only[List.any_cons,Bool.or_eq_false_iff] at h
  rw[idxE,if_neg (by simp[h.1])]
  exact zgP h.2
theorem zeW{p:De→Bool}:∀{l:List De} {i:Nat} {b:De},l.find? p=some b→∃j:Nat,idxE p i l=((i+j:Nat):Int)∧l[j]?=some b
 |[],_,_,h=>by simp at h
 |d::l,i,b,h=>by
  rw[List.find?_cons] at h
  cases hp:p d with
  |true=>rw[hp] at h;simp only[Option.some.injEq] at h;subst h;exact⟨0,by rw[idxE,if_pos hp];rfl,rfl⟩
  |false =>
   rw[hp] at h
   obtain⟨j,h1,h2⟩:=zeW (i:=i+1) h
   exact⟨j+1,by rw[idxE,if_neg (by simp[hp]),h1];congr 1;omega,by simpa using h2⟩
theorem zcO{α:Type}(p:α→Bool)(l:List α)(i:Nat)(h:i<l.length):(l.take (i+1)).filter p=(l.take i).filter p++if p l[i]=true then[l[i]] else[]:=by
 rw[List.take_succ_eq_append_getElem h,List.filter_append]
 cases hp:p l[i]<;>simp[hp]
theorem zf6{α β:Type}(f:α→Option β)(l:List α)(i:Nat)(h:i<l.length):(l.take (i+1)).filterMap f=(l.take i).filterMap f++(f l[i]).toList:=by
 rw[List.take_succ_eq_append_getElem h,List.filterMap_append]
 cases hp:f l[i]<;>simp[hp]
def rowO(os:List Ov):List Value:=(os.map Ov.cells).flatten
theorem zgQ(os:List Ov):(rowO os).length=os.length*4:=by
 unfold rowO
 rw[zag (k:=4) (fun us hus=>by obtain⟨x,_,rfl⟩:=List.mem_map.1 hus;rfl)]
 simp
theorem zlq(os:List Ov)(o:Ov):rowO (os++[o])=rowO os++o.cells:=by simp[rowO]
def RebV(R:RO)(r:Value)(ds:List De):Prop:=match allD ds with
 |.error k=>r = .tuple #[.slice none 0 0,.slice none 0 0,.int .i64 k]
 |.ok o=>∃u v,r = .tuple #[u,v,.int .i64 0]∧EdsV R u (forceD o)∧EncV Ov.cells 4 R v (recsD o)
theorem zq5:zaB Tryz.prog 27=true:=by kernel_rfl
theorem zlr(ds:List De)(v:Value)(R:RO)(h:EdsV R v ds):zaa Tryz.prog 10 [v] R fun R' r=>RebV R' r ds:=by
 have hS:=zpN ds v R h
 obtain⟨a0,cap0,rfl,_⟩:=h.form
 refine zac mix Tryz.func10 comp10 (by simp[Tryz.ntmps10]) ?_;simp only[go_sem,↓reduceIte,reduceCtorEq,vc10,rs10]
 refine vcall hS ?_
 intro R1 r hle1 hr
 unfold RebV
 cases hall:allD ds with
 |error k =>
  have hk:=zgl hall
  rw[hall] at hr
  dsimp only at hr
  subst hr
  try simp only[go_sem,↓reduceIte,Qa]
  exact fun h0=>by omega
 |ok o =>
  rw[hall] at hr
  dsimp only at hr
  obtain⟨u,rfl,hu⟩:=hr
  have hu':=hu
  have hol:o.length≤1000000000:=by obtain⟨_,_,_,_,h⟩:=hu;exact h
  obtain⟨a,cap,rfl,hc,hf⟩:=PlOK.of hu
  try simp only[go_sem,↓reduceIte,Qa]
  refine zal (Nat×List Pl×List Ov) (fun x=>[(22,.val (.int .i64 x.1)),(21,.val (.int .i64 o.length)),(20,.val (.slice a o.length cap)),(5,.val (.slice a o.length cap)),(7,gs 0 x.2.1.length),(8,gs 1 x.2.2.length)])
   (fun x=>[gb 52 13 (rowP x.2.1),gb 78 4 (rowO x.2.2)])
   (fun x R=>x.1≤o.length∧x.2.1.map (·.1)=(o.take x.1).filter (fun a => !(o.any (overD a)))∧x.2.2=(o.take x.1).filterMap (fun a=>(o.find? (overD a)).map (ovOf a))∧x.2.1.length≤x.1∧x.2.2.length≤x.1∧∀p∈x.2.1,PlOK R p) (fun x=>o.length-x.1) (0,[],[]) [] ?_ ?_ ?_ ?_
  ·(try simp only[go_sem,↓reduceIte,Qa,Qb,reduceCtorEq])<;>(repeat' (first|rfl|trivial|constructor|(intro h;exact absurd rfl h)))
  ·try simp only[go_sem,Qb,Qf]
  ·exact⟨Nat.zero_le _,rfl,rfl,Nat.le_refl _,Nat.le_refl _,by simp⟩
  rintro⟨i,ps,os⟩ env R2 hle2 hE ⟨hi,hps,hos,hpl,hol2,hpo⟩
  (simp only[go_sem] at hE;obtain⟨e22,e21,e20,e5,e7,e8⟩:=hE;simp only[go_sem,↓reduceIte,Qa,e22,e21,e20,e7,e8];dsimp only at *)
  refine⟨fun hlt=>⟨hlt,?_⟩,fun hge=>?_⟩
  ·have hlt':i<o.length:=by omega
   obtain⟨ad,p,had,hp1,hR,hpok⟩:=hf i hlt'
   have hcells:∀j u,(p.ed.cells)[j]?=some u→R2 ((ad.add (i*13)).add j) u:=fun j u hj=>hle2 _ _ (hR j u hj)
   have hflt:=zcO (fun a => !(o.any (overD a))) o i hlt'
   have hflm:=zf6 (fun a=>(o.find? (overD a)).map (ovOf a)) o i hlt'
   rw[←hp1] at hflt hflm
   refine vat ad had ?_
   try simp only[go_sem,↓reduceIte]
   refine zaf p.ed.cells rfl hcells ?_
   simp only[go_sem,↓reduceIte,Qa,Qb,Ed.cells,Pl.ed,De.ed,e5]
   refine vlend ?_
   intro β κ R3 hL
   have hbox:=hL.2 2 _ rfl
   have hLle:=hL.1
   refine⟨_,zgg 27 [.pointer (some ⟨β 2,0,none⟩)] zq5 (overD p.1) o _ R3 ((hu'.mono hle2).mono hLle) ?_,?_⟩
   ·intro d cs R4 hle4 hd
    have:=zq4 p.ed d cs ⟨β 2,0,none⟩ R4 (fun j u hj=>by rw[Addr.add_lit,Nat.zero_add];exact hle4 _ _ (hbox j u hj)) hd
    exact this
   rintro R4 v R5 hle4 rfl hle5 _
   simp only[go_sem,↓reduceIte,Qa,Qb,Qc,e5,e7,e8]
   have hpo5:∀q∈ps,PlOK R5 q:=fun q hq=>(hpo q hq).mono hle5
   refine⟨fun hn=>?_,fun hn=>?_⟩
   ·have hany:o.any (overD p.1)=false:=by
     cases hf:o.find? (overD p.1) with
     |none=>rw[List.any_eq_false];exact fun x hx=>List.find?_eq_none.1 hf x hx
     |some b=>obtain⟨j,hj,_⟩:=zeW (i:=0) hf;omega
    have hfind:o.find? (overD p.1)=none:=List.find?_eq_none.2 (List.any_eq_false.1 hany)
    rw[hany,if_pos (by rfl)] at hflt
    rw[hfind] at hflm
    refine vgrow (rowP ps) (fun h0=>by rw[gb_ne h0];rfl) (fun h0=>by rw[h0,zbv];rfl) (by rw[zaH]) (by omega) (by omega) (by omega) ?_
    simp only[go_sem,↓reduceIte,Qa,Qb,Qe,Qf,e22,e21,e20,e5,e8]
    refine⟨_,W.in64 (by omega),(i+1,ps++[p],os),[4,1],?_⟩
    try simp only[go_sem,Qd]
    refine⟨by omega,⟨rfl,fun _=>by rw[zaF];rfl,fun h=>gb_ne h⟩,by decide,by omega,by rw[hflt,←hps];simp,by rw[hflm,hos];simp,by omega,by omega,fun q hq=>?_⟩
    rcases List.mem_append.1 hq with hq|hq
    ·exact hpo5 q hq
    ·simp only[List.mem_cons,List.not_mem_nil,or_false] at hq;subst hq;exact hpok.mono (RO.le_trans hle2 hle5)
   ·have hany:o.any (overD p.1)=true:=by
     cases ha:o.any (overD p.1) with
     |true=>rfl
     |false=>rw[zgP ha] at hn;omega
    obtain⟨b,hb⟩:∃b,o.find? (overD p.1)=some b:=by
     cases hf:o.find? (overD p.1) with
     |none=>rw[List.find?_eq_none] at hf;rw[List.any_eq_true] at hany;obtain⟨x,hx,hx'⟩:=hany;exact absurd hx' (hf x hx)
     |some b=>exact⟨b,rfl⟩
    rw[hany,if_neg (by simp)] at hflt
    rw[hb] at hflm
    obtain⟨j,hj,hbj⟩:=zeW (i:=0) hb
    rw[Nat.zero_add] at hj
    obtain⟨hjl,hbe⟩:=List.getElem?_eq_some_iff.1 hbj
    obtain⟨adb,q,hadb,hq1,hRq,_⟩:=hf j hjl
    rw[hbe] at hq1
    have hcq:∀k u,(q.ed.cells)[k]?=some u→R5 ((adb.add (j*13)).add k) u:=fun k u hk=>hle5 _ _ (hle2 _ _ (hRq k u hk))
    rw[hj]
    try simp only[go_sem]
    refine⟨by omega,vat adb hadb ?_⟩
    try simp only[go_sem,↓reduceIte,Qb]
    refine vload _ (hcq 2 _ rfl) ?_
    simp only[go_sem,↓reduceIte,Qa,e5]
    refine⟨by omega,vat adb hadb ?_⟩
    try simp only[go_sem,↓reduceIte,Qb]
    refine vload _ (hcq 3 _ rfl) ?_
    simp only[go_sem,↓reduceIte,Qa,Qb,Qc,Qd]
    refine vgrow (rowO os) (fun h0=>by rw[gb_ne h0];rfl) (fun h0=>by rw[h0,zbv];rfl) (by rw[zgQ]) (by omega) (by omega) (by omega) ?_
    simp only[go_sem,↓reduceIte,Qa,Qb,Qe,Qf,e22,e21,e20,e5,e7]
    refine⟨_,W.in64 (by omega),(i+1,ps,os++[ovOf p.1 b]),[0,4],?_⟩
    try simp only[go_sem,Qd]
    refine⟨by omega,⟨rfl,fun h=>gb_ne h,fun _=>by rw[zlq,←hq1];rfl⟩,by decide,by omega,by rw[hflt,←hps];simp,by rw[hflm,hos];simp,by omega,by omega,hpo5⟩
  ·obtain rfl:i=o.length:=by omega
   rw[List.take_length] at hps hos
   by_cases h1:ps.length=0
   ·rw[h1]
    obtain rfl:ps=[]:=List.eq_nil_of_length_eq_zero h1
    by_cases h2:os.length=0
    ·rw[h2]
     try simp only[go_sem,↓reduceIte,Qa]
     obtain rfl:os=[]:=List.eq_nil_of_length_eq_zero h2
     refine⟨_,_,rfl,?_,?_⟩
     ·unfold forceD;rw[←hps];exact EdsV.nil R2
     ·unfold recsD;rw[←hos];exact EncV.nil _ _ R2
    ·rw[zaI h2]
     try simp only[go_sem,↓reduceIte,Qa]
     rw[gb_ne (fun e=>h2 (by have:=zgQ os;rw[e] at this;simp at this;omega))]
     try simp only[go_sem,↓reduceIte]
     intro b cap' R3 hle3 hrow hcap hfr
     refine⟨_,_,rfl,?_,?_⟩
     ·unfold forceD;rw[←hps];exact EdsV.nil R3
     ·unfold recsD;rw[←hos];exact RowIn.enc (fun _=>rfl) (by omega) hrow hcap (by omega)
   ·rw[zaI h1]
    try simp only[go_sem]
    rw[gb_ne (fun e=>h1 (by have:=zaH ps;rw[e] at this;simp at this;omega))]
    try simp only[go_sem,↓reduceIte,Qa,reduceCtorEq]
    intro b cap' R3 hle3 hrow hcap hfr
    have hF:EdsV R3 (.slice (some ⟨b,0,none⟩) ps.length cap') (forceD o):=by
     unfold forceD
     rw[←hps]
     exact EdsV.row hrow hcap (fun p hp=>(hpo p hp).mono hle3) (by omega)
    by_cases h2:os.length=0
    ·rw[h2]
     try simp only[go_sem,↓reduceIte]
     obtain rfl:os=[]:=List.eq_nil_of_length_eq_zero h2
     refine⟨_,_,rfl,hF,?_⟩
     unfold recsD;rw[←hos];exact EncV.nil _ _ R3
    ·rw[zaI h2]
     try simp only[go_sem]
     rw[gb_ne (fun e=>h2 (by have:=zgQ os;rw[e] at this;simp at this;omega))]
     try simp only[go_sem,↓reduceIte]
     intro b' cap'' R4 hle4 hrow' hcap2 hfr'
     refine⟨_,_,rfl,hF.mono hle4,?_⟩
     unfold recsD;rw[←hos];exact RowIn.enc (fun _=>rfl) (by omega) hrow' hcap2 (by omega)
def Se.zero:Se:=⟨.slice none 0 0,0,0,⟨#[]⟩,0,0,.slice none 0 0⟩
def Se.on(s:Se)(rl:List Nd):On:=⟨rl,s.minute,s.length,s.zone⟩
def zck(day:Int)(d:De):Bool:=decide (d.kind=3)&&decide (d.day≤day)
theorem zq6(b:De)(cb:List Value)(ad:Addr)(day:Int)(R:RO)(ha:R ad (.int .i64 day))(hb:EdV R cb b):zaa Tryz.prog 66 [.agg cb.toArray,.pointer (some ad)] R fun _ r=>r = .bool (zck day b):=by
 obtain⟨ra,rn,rc,rfl,_⟩:=hb.form
 simp only[Ed.cells,De.ed] at *
 refine zac mix Tryz.func66 comp66 (by simp[Tryz.ntmps66]) ?_;simp only[go_sem,↓reduceIte,Qa,vc66,rs66]
 unfold zck
 refine⟨fun h3=>?_,fun h3=>?_⟩
 ·refine vload _ ha ?_
  try simp only[go_sem,↓reduceIte,Qa]
  simp[h3]
 ·simp[h3]
theorem znH(p:De→Bool)(l:List De):decide (0≤idxE p 0 l)=l.any p:=by
 cases h:l.any p with
 |false=>rw[zgP h];rfl
 |true =>
  cases hf:l.find? p with
  |none=>rw[List.find?_eq_none] at hf;rw[List.any_eq_true] at h;obtain⟨x,hx,hx'⟩:=h;exact absurd hx' (hf x hx)
  |some b=>obtain⟨j,hj,_⟩:=zeW (i:=0) hf;rw[hj];simp
theorem zgR(g:FuncId)(caps:List Value)(hb:zaB Tryz.prog g=true)(p:De→Bool)(ds:List De)(v:Value)(R:RO)(h:EdsV R v ds)
  (hcl:∀d cs R',RO.le R R'→EdV R' cs d→zaa Tryz.prog g (.agg cs.toArray::caps) R' fun _ r=>r = .bool (p d)):zaa Tryz.prog 65 [v,.func (.func g) #[] caps.toArray] R fun _ r=>r = .bool (ds.any p):=by
 have hI:=zgg g caps hb p ds v R h hcl
 obtain⟨a,cap,rfl,hc,_⟩:=h.form
 refine zac mix Tryz.func65 comp65 (by simp[Tryz.ntmps65]) ?_;simp only[go_sem,↓reduceIte,Qa,reduceCtorEq,vc65,rs65]
 refine vcall hI ?_
 rintro R1 w hle rfl
 try simp only[go_sem,↓reduceIte]
 rw[←znH]
theorem zpO:zaB Tryz.prog 66=true:=by kernel_rfl
theorem zpP(ds:List De)(v:Value)(ad:Addr)(day:Int)(R:RO)(ha:R (ad.add 7) v)(h:EdsV R v ds):zaa Tryz.prog 64 [.int .i64 day,.pointer (some ad)] R fun _ r=>r = .bool (ds.any (zck day)):=by
 have h':=h
 obtain⟨a,cap,rfl,hc,_⟩:=h.form
 refine zac mix Tryz.func64 comp64 (by simp[Tryz.ntmps64]) ?_;simp only[go_sem,↓reduceIte,Qa,Qb,vc64,rs64]
 refine vload _ ha ?_
 try simp only[go_sem,↓reduceIte,Qa]
 refine vlend ?_
 intro β κ R3 hL
 have hbox:=hL.2 0 _ rfl
 refine⟨_,zgR 66 [.pointer (some ⟨β 0,0,none⟩)] zpO (zck day) ds _ R3 (h'.mono hL.1) ?_,?_⟩
 ·intro d cs R4 hle4 hd
  exact zq6 d cs ⟨β 0,0,none⟩ day R4 (hle4 _ _ (hbox 0 _ rfl)) hd
 rintro R4 v R5 hle4 rfl hle5 _
 try simp only[go_sem,↓reduceIte]
def zcl(d:De):Bool:=decide (d.kind=1)
def zav(day:Int)(d:De):Bool:=decide (d.kind=1)&&decide (d.day=day)
def movesD(ms:List Mv)(ds:List De)(e:Int):List Mv :=
 (ds.filter zcl).map (·.mv)++ms.filter fun m=>decide (m.day<e)&&(!(ds.any (zav m.day)) && !(ds.any (zck m.day)))
theorem znI:zaB Tryz.prog 64=true:=by kernel_rfl
def edMap(ds:List De):Int→Option Value:=fun k=>if ds.any (zav k)=true then some (.bool true) else none
theorem zq7(s:Se)(ms:List Mv)(ds:List De)(v:Value)(e:Int)(R:RO)(hr:s.rule.oneCell'=true)(hm:EncV Mv.cells 5 R s.moves ms)(h:EdsV R v ds)(hsz:ms.length+ds.length≤1000000000):zaa Tryz.prog 32 [.agg (s.cells++[v,.int .i64 e]).toArray] R fun R' u =>
  ∃ys:List Mv,EncV Mv.cells 5 R' u ys∧ys.Perm (movesD ms ds e)∧ys.Pairwise fun x y=>x.day≤y.day:=by
 have hdl:ds.length≤1000000000:=by obtain⟨_,_,_,_,h⟩:=h;exact h
 have hml:=hm.2
 have h0:=h
 obtain⟨a,cap,rfl,hc,hf⟩:=h.form
 obtain⟨sr,sm,sl,sz,sg,sf,smv⟩:=s
 dsimp only at hr hm
 obtain⟨ma,mcap,rfl,hmc,hmf⟩:=hm.form
 simp only[Se.cells,List.cons_append,List.nil_append]
 refine zac mix Tryz.func32 comp32 (by simp[Tryz.ntmps32]) ?_;simp only[go_sem,↓reduceIte,Qa,vc32,rs32]
 refine zal (Nat×List MapEntry×Nat×List Mv) (fun x=>[(15,.val (.int .i64 x.1)),(14,.val (.int .i64 ds.length)),(13,.val (.slice a ds.length cap)),(1,.loc 0 0),(3,.fn 64 [.l 0 0]),(4,.mp 1),(5,gs 2 x.2.2.2.length)])
  (fun x=>[.box [.val sr,.val (.int .i64 sm),.val (.int .i64 sl),.val (.string sz),.val (.int .i64 sg),.val (.int .i64 sf),.val (.slice ma ms.length mcap),.val (.slice a ds.length cap),.val (.int .i64 e)],.mp x.2.1 x.2.2.1,gb 50 5 (rowM x.2.2.2)])
  (fun x R=>x.1≤ds.length∧MapOf (Value.int .i64) x.2.1 (edMap (ds.take x.1))∧x.2.2.2=((ds.take x.1).filter zcl).map (·.mv)∧x.2.2.2.length≤x.1) (fun x=>ds.length-x.1) (0,[],0,[]) [] ?_ ?_ ?_ ?_
 ·(try simp only[go_sem,↓reduceIte,Qa,Qb,reduceCtorEq])<;>(repeat' (first|rfl|trivial|constructor|(intro h;exact absurd rfl h)))
 ·try simp only[go_sem,Qb,Qe,Qf]
  rfl
 ·exact⟨Nat.zero_le _,MapOf.nil _,rfl,Nat.le_refl _⟩
 ·rintro⟨i,es,clock,os⟩ env R1 hle1 hE ⟨hi,hmap,hos,hol⟩
  (simp only[go_sem] at hE;obtain⟨e15,e14,e13,e1,e3,e4,e5⟩:=hE;simp only[go_sem,↓reduceIte,Qa,Qb,e15,e14,e13,e1];dsimp only at *)
  refine⟨fun hlt=>⟨hlt,?_⟩,fun hge=>?_⟩
  ·have hlt':i<ds.length:=by omega
   obtain⟨ad,ra,rn,rc,had,hR,_⟩:=hf i hlt'
   obtain⟨d,hd⟩:∃d,d=ds[i]:=⟨_,rfl⟩
   rw[←hd] at hR
   refine vat ad had ?_
   try simp only[go_sem,↓reduceIte]
   refine zaf (d.ed ra rn rc).cells rfl (fun j u hj=>hle1 _ _ (hR j u hj)) ?_
   simp only[go_sem,↓reduceIte,Qa,Qb,Qe,Qf,Ed.cells,De.ed,e15,e14,e13,e1,e3,e4,e5]
   have hflt:=zcO zcl ds i hlt'
   have hany:∀k,(ds.take (i+1)).any (zav k)=((ds.take i).any (zav k)||zav k d):=fun k=>by
    rw[List.take_succ_eq_append_getElem hlt',List.any_append,←hd];simp
   rw[←hd] at hflt
   refine⟨fun hk=>?_,fun hk=>?_⟩
   ·obtain⟨r,es',clock',g1,g2,g3⟩:=MapOf.put none (Value.int .i64) zgO hmap d.day (.bool true) clock
    refine⟨by rw[zgO];simp,vmput es clock r rfl g1 ?_⟩
    rw[g2]
    simp only[go_sem,↓reduceIte,Qa,Qb,Qc,e5]
    refine vgrow (rowM os) (fun h0=>by rw[gb_ne h0];rfl) (fun h0=>by rw[h0,zbv];rfl) (by rw[zby]) (by omega) (by omega) (by omega) ?_
    simp only[go_sem,↓reduceIte,Qa,Qb,Qe,Qf,e15,e14,e13,e1,e3,e4]
    refine⟨_,W.in64 (by omega),(i+1,es',clock',os++[d.mv]),[0,1,5],?_⟩
    try simp only[go_sem,Qd]
    refine⟨by omega,⟨⟨rfl,rfl⟩,fun _=>by rw[zb5];rfl⟩,⟨rfl,by decide⟩,by omega,?_,by rw[hflt,if_pos (by simp[zcl,hk]),List.map_append,←hos];rfl,by omega⟩
    have:edMap (ds.take (i+1))=fun k'=>if k'=d.day then some (.bool true) else edMap (ds.take i) k':=by
     funext k
     unfold edMap
     rw[hany]
     by_cases hkd:k=d.day
     ·subst hkd;simp[zav,hk]
     ·have:zav k d=false:=by simp[zav,Ne.symm hkd]
      rw[this,Bool.or_false,if_neg hkd]
    rw[this]
    exact g3
   ·refine⟨_,W.in64 (by omega),(i+1,es,clock,os),[],?_⟩
    try simp only[go_sem]
    refine⟨by omega,⟨rfl,fun h=>gb_ne h⟩,⟨rfl,by decide⟩,by omega,?_,by rw[hflt,if_neg (by simp[zcl,hk]),List.append_nil,←hos],by omega⟩
    have:edMap (ds.take (i+1))=edMap (ds.take i):=by
     funext k
     unfold edMap
     rw[hany]
     have:zav k d=false:=by simp[zav,hk]
     rw[this,Bool.or_false]
    rw[this]
    exact hmap
  ·obtain rfl:i=ds.length:=by omega
   rw[List.take_length] at hmap hos
   refine zal (Nat×List Mv) (fun x=>[(35,.val (.int .i64 x.1)),(34,.val (.int .i64 ms.length)),(33,.val (.slice ma ms.length mcap)),(1,.loc 0 0),(3,.fn 64 [.l 0 0]),(4,.mp 1),(5,gs 2 x.2.length)])
    (fun x=>[.box [.val sr,.val (.int .i64 sm),.val (.int .i64 sl),.val (.string sz),.val (.int .i64 sg),.val (.int .i64 sf),.val (.slice ma ms.length mcap),.val (.slice a ds.length cap),.val (.int .i64 e)],.mp es clock,gb 50 5 (rowM x.2)])
    (fun x R=>x.1≤ms.length∧x.2=os++(ms.take x.1).filter (fun m=>decide (m.day<e)&&(!(ds.any (zav m.day)) && !(ds.any (zck m.day))))∧x.2.length≤os.length+x.1) (fun x=>ms.length-x.1) (0,os) [] ?_ ?_ ?_ ?_
   ·(try simp only[go_sem,↓reduceIte,Qa,Qb])<;>(repeat' (first|rfl|trivial|constructor|(intro h;exact absurd rfl h)))
    exact fun h=>gb_ne h
   ·try simp only[go_sem,Qb,Qe,Qf]
    rfl
   ·exact⟨Nat.zero_le _,by simp,Nat.le_refl _⟩
   ·rintro⟨i,qs⟩ env R2 hle2 hE ⟨hi2,hqs,hql⟩
    (simp only[go_sem] at hE;obtain⟨e35,e34,e33,e1,e3,e4,e5⟩:=hE;simp only[go_sem,↓reduceIte,Qa,Qb,e35,e34,e33,e5];dsimp only at *)
    refine⟨fun hlt=>⟨hlt,?_⟩,fun hge=>?_⟩
    ·have hlt':i<ms.length:=by omega
     obtain⟨ad,had,hR⟩:=hmf i hlt'
     obtain⟨m,hm⟩:∃m,m=ms[i]:=⟨_,rfl⟩
     rw[←hm] at hR
     have hflt:=zcO (fun m=>decide (m.day<e)&&(!(ds.any (zav m.day)) && !(ds.any (zck m.day)))) ms i hlt'
     rw[←hm] at hflt
     refine vat ad had ?_
     try simp only[go_sem,↓reduceIte]
     refine zaf m.cells rfl (fun j u hj=>hle2 _ _ (hle1 _ _ (hR j u hj))) ?_
     simp only[go_sem,↓reduceIte,Qa,Qb,Qe,Qf,Mv.cells,e35,e34,e33,e1,e3,e4,e5]
     refine⟨fun hlt2=>?_,fun hge2=>?_⟩
     ·obtain⟨r,g1,g2⟩:=MapOf.get none (Value.int .i64) zgO hmap m.day
      have hr:mres (.bool false) false r = .bool (ds.any (zav m.day)):=by
       unfold edMap at g2
       cases hq:ds.any (zav m.day) with
       |true =>
        rw[hq,if_pos rfl] at g2
        obtain⟨⟨j,v⟩,rfl,rfl⟩:=Option.map_eq_some_iff.1 g2
        rfl
       |false =>
        rw[hq,if_neg (by simp)] at g2
        rw[Option.map_eq_none_iff] at g2
        subst g2
        rfl
      refine vmget es clock r (by rw[zgO];simp) rfl g1 ?_
      rw[hr]
      simp only[go_sem,↓reduceIte,Qa,Qb,Qe,Qf,e35,e34,e33,e1,e3,e4,e5]
      refine⟨fun hq=>?_,fun hq=>?_⟩
      ·refine⟨znI,zrU ?_⟩
       intro β κ R3 hL
       have hbox:=hL.2 0 _ rfl
       refine⟨_,zpP ds _ ⟨β 0,0,none⟩ m.day R3 (by rw[Addr.add_lit,Nat.zero_add];exact hbox 7 _ rfl) (h0.mono (RO.le_trans hle1 (RO.le_trans hle2 hL.1))),?_⟩
       rintro R4 v R5 hle4 rfl hle5 _
       simp only[go_sem,↓reduceIte,Qa,Qb,Qc,Qe,Qf,e35,e34,e33,e1,e3,e4,e5]
       refine⟨fun hq2=>?_,fun hq2=>?_⟩
       ·refine vgrow (rowM qs) (fun h0=>by rw[gb_ne h0];rfl) (fun h0=>by rw[h0,zbv];rfl) (by rw[zby]) (by omega) (by omega) (by omega) ?_
        simp only[go_sem,↓reduceIte,Qa,Qb,Qe,Qf,e35,e34,e33,e1,e3,e4]
        refine⟨_,W.in64 (by omega),(i+1,qs++[m]),[0,1,5],?_⟩
        try simp only[go_sem]
        refine⟨by omega,⟨⟨rfl,rfl⟩,fun _=>by rw[zb5];rfl⟩,⟨rfl,by decide⟩,by omega,by rw[hflt,if_pos (by simp[hlt2,hq,hq2]),hqs,List.append_assoc],by omega⟩
       ·refine⟨_,W.in64 (by omega),(i+1,qs),[],?_⟩
        try simp only[go_sem]
        exact⟨by omega,⟨rfl,fun h=>gb_ne h⟩,⟨rfl,by decide⟩,by omega,by rw[hflt,if_neg (by simp[hlt2,hq,hq2]),List.append_nil,hqs],by omega⟩
      ·refine⟨_,W.in64 (by omega),(i+1,qs),[],?_⟩
       try simp only[go_sem]
       exact⟨by omega,⟨rfl,fun h=>gb_ne h⟩,⟨rfl,by decide⟩,by omega,by rw[hflt,if_neg (by simp[hlt2,hq]),List.append_nil,hqs],by omega⟩
     ·refine⟨_,W.in64 (by omega),(i+1,qs),[],?_⟩
      try simp only[go_sem]
      exact⟨by omega,⟨rfl,fun h=>gb_ne h⟩,⟨rfl,by decide⟩,by omega,by rw[hflt,if_neg (by simp[hge2]),List.append_nil,hqs],by omega⟩
    ·obtain rfl:i=ms.length:=by omega
     rw[List.take_length] at hqs
     have hqd:qs=movesD ms ds e:=by rw[hqs,hos];rfl
     by_cases h0:qs.length=0
     ·rw[h0]
      try simp only[go_sem]
      refine vcall (zj2 _ R2) ?_
      rintro R3 v hle3 rfl
      simp only[go_sem,↓reduceIte,Qa,e5]
      rw[h0]
      try simp only[go_sem]
      obtain rfl:qs=[]:=List.eq_nil_of_length_eq_zero h0
      exact⟨[],EncV.nil _ _ _,by rw[←hqd],List.Pairwise.nil⟩
     ·rw[zaI h0]
      try simp only[go_sem]
      refine vhand [2] [.sl 0 qs.length,.val (.func (.func 68) #[] #[])] [.row 50 5 (rowM qs)] (zpM qs (by omega) R2) rfl rfl rfl ?_ (by simp) rfl rfl ?_
      ·try simp only[go_sem]
       exact gb_ne (fun e=>h0 (by have:=zby qs;rw[e] at this;simp at this;omega))
      rintro R3 bs r hle3 ⟨rfl,rs,hperm,hpw,rfl,rfl⟩ _
      simp only[go_sem,↓reduceIte,Qa,Qb,e5]
      rw[zaI h0]
      simp only[go_sem,setG]
      intro b cap' R4 hle4 hrow hcap hfr
      refine⟨rs,?_,by rw[←hqd];exact hperm,hpw⟩
      rw[show qs.length=rs.length from hperm.length_eq.symm]
      exact RowIn.enc (fun _=>rfl) (by omega) hrow hcap (by rw[hperm.length_eq];omega)
def zgS(f:Int)(s:Se):List Value := .int .i64 f::s.cells
def Ti.zero:Ti:=⟨[],0,0,⟨#[]⟩,0,0⟩
structure Pa where
 day:Int
 ti:Ti
 moves:List Mv
 deriving DecidableEq
abbrev Pp:=Int×Ti×Value
def Pp.se(p:Pp):Se:=⟨p.2.2,p.2.1.minute,p.2.1.length,p.2.1.zone,p.2.1.gap,p.2.1.fold,.slice none 0 0⟩
def Pp.cells(p:Pp):List Value:=zgS p.1 (Pp.se p)
def Pp.OK(R:RO)(p:Pp):Prop:=RuleV R p.2.2 p.2.1.rule
def rowPp(ps:List Pp):List Value:=(ps.map Pp.cells).flatten
theorem zcA(ps:List Pp):(rowPp ps).length=ps.length*8:=by
 unfold rowPp
 rw[zag (k:=8) (fun us hus=>by obtain⟨x,_,rfl⟩:=List.mem_map.1 hus;rfl)]
 simp
theorem zek(ps:List Pp)(o:Pp):rowPp (ps++[o])=rowPp ps++o.cells:=by simp[rowPp]
def tiOn(s:Se)(rl:List Nd)(ds:List De)(day:Int):Ti:=⟨(onE day (s.on rl) ds).rule,(onE day (s.on rl) ds).minute,(onE day (s.on rl) ds).length,(onE day (s.on rl) ds).zone,s.gap,s.fold⟩
def zb6(x y:Ti):Bool:=decide (y.minute=x.minute)&&decide (y.length=x.length)&&decide (x.rule=y.rule)
def partsGo(e:Int)(f:Int→Ti):List Int→List (Int×Ti)→List (Int×Ti)
 |[],out=>out
 |day::r,out =>
  if e≤day then out++[(day,Ti.zero)]
  else match out.getLast? with
   |some y=>if zb6 (f day) y.2=true then partsGo e f r out else partsGo e f r (out++[(day,f day)])
   |none=>partsGo e f r (out++[(day,f day)])
def zaQ(s:Se)(rl:List Nd)(ds:List De)(e:Int):List (Int×Ti):=partsGo e (tiOn s rl ds) (rising (0::ds.map (·.day))) []
theorem zj3(ps:List Pp)(o:Pp)(j:Nat):(rowPp (ps++[o]))[ps.length*8+j]?=o.cells[j]?:=by
 rw[zek,List.getElem?_append_right (by rw[zcA];omega),zcA]
 congr 1;omega
theorem zf7(xs:List Int):Lib.compact (xs.mergeSort fun x y=>decide (x≤y))=rising xs:=by
 rw[←zf5];simp[Lib.compact]
theorem zfb(e:Int)(f:Int→Ti)(out:List (Int×Ti)):partsGo e f [] out=out:=rfl
theorem zb7{e:Int}{f:Int→Ti}{day:Int}{r:List Int}{out:List (Int×Ti)}(h:e≤day):partsGo e f (day::r) out=out++[(day,Ti.zero)]:=by rw[partsGo,if_pos h]
theorem zbz{e:Int}{f:Int→Ti}{day:Int}{r:List Int}(h:¬ e≤day):partsGo e f (day::r) []=partsGo e f r [(day,f day)]:=by rw[partsGo,if_neg h];rfl
theorem zcm{e:Int}{f:Int→Ti}{day:Int}{r:List Int}{out:List (Int×Ti)}{y:Int×Ti}(h:¬ e≤day)(k:zb6 (f day) y.2=true):partsGo e f (day::r) (out++[y])=partsGo e f r (out++[y]):=by rw[partsGo,if_neg h];simp[k]
theorem zb8{e:Int}{f:Int→Ti}{day:Int}{r:List Int}{out:List (Int×Ti)}{y:Int×Ti}(h:¬ e≤day)(k:zb6 (f day) y.2=false):partsGo e f (day::r) (out++[y])=partsGo e f r (out++[y]++[(day,f day)]):=by rw[partsGo,if_neg h];simp[k]
theorem zq8(s:Se)(rl:List Nd)(ds:List De)(v:Value)(e:Int)(R:RO)(hr:RuleV R s.rule rl)(hm:s.moves.oneCell'=true)(h:EdsV R v ds)(hsz:ds.length≤100000000):zaV Tryz.prog 31 [.val (.agg (s.cells++[v,.int .i64 e]).toArray)] [] R fun R' bs r =>
  ∃ps:List Pp,ps≠[]∧(∀p∈ps,p.OK R')∧ps.map (fun p=>(p.1,p.2.1))=zaQ s rl ds e∧∃j,r = .sl j ps.length∧bs[j]?=some (.row 57 8 (rowPp ps)):=by
 have hdl:ds.length≤1000000000:=by omega
 have h0:=h
 have hron:=hr.one
 obtain⟨a,cap,rfl,hc,hf⟩:=h.form
 obtain⟨sr,sm,sl,sz,sg,sf,smv⟩:=s
 dsimp only at hr hm hron
 simp only[Se.cells,List.cons_append,List.nil_append]
 refine zdj mix Tryz.func31 comp31 (by simp[Tryz.ntmps31]) rfl rfl ?_;simp only[go_sem,↓reduceIte,Qa,Qb,vc31,rs31]
 refine zal Nat (fun i=>[(16,.val (.int .i64 i)),(15,.val (.int .i64 ds.length)),(14,.val (.slice a ds.length cap)),(1,.loc 0 0),(3,.sl 1 (i+1))])
  (fun i=>[.box [.val sr,.val (.int .i64 sm),.val (.int .i64 sl),.val (.string sz),.val (.int .i64 sg),.val (.int .i64 sf),.val smv,.val (.slice a ds.length cap),.val (.int .i64 e)],.row 3 1 ((0::(ds.take i).map (·.day)).map (.int .i64))])
  (fun i R=>i≤ds.length) (fun i=>ds.length-i) 0 [] ?_ ?_ ?_ ?_
 ·(try simp only[go_sem,↓reduceIte,Qa,Qb])<;>(repeat' (first|rfl|trivial|constructor|(intro h;exact absurd rfl h)))
 ·try simp only[go_sem,Qb,Qe,Qf]
 ·exact Nat.zero_le _
 ·rintro i env R1 hle1 hE hi
  (simp only[go_sem] at hE;obtain⟨e16,e15,e14,e1,e3⟩:=hE;simp only[go_sem,↓reduceIte,Qa,Qb,e16,e15,e14,e3];dsimp only at *)
  refine⟨fun hlt=>⟨hlt,?_⟩,fun hge=>?_⟩
  ·have hlt':i<ds.length:=by omega
   obtain⟨ad,ra,rn,rc,had,hR,_⟩:=hf i hlt'
   refine vat ad had ?_
   try simp only[go_sem,↓reduceIte]
   refine zaf (ds[i].ed ra rn rc).cells rfl (fun j u hj=>hle1 _ _ (hR j u hj)) ?_
   simp only[go_sem,↓reduceIte,Qa,Qb,Ed.cells,De.ed,e3]
   refine vappO _ rfl (by simp;omega) (by omega) ?_
   simp only[go_sem,↓reduceIte,Qa,Qb,Qe,Qf,e16,e15,e14,e1]
   refine⟨_,W.in64 (by omega),i+1,[0,4],?_⟩
   try simp only[go_sem]
   refine⟨by omega,⟨rfl,?_⟩,by decide,by omega⟩
   rw[List.take_succ_eq_append_getElem hlt',List.map_append,List.map_append]
   rfl
  ·obtain rfl:i=ds.length:=by omega
   rw[List.take_length]
   have hlen:(0::ds.map (·.day)).length=ds.length+1:=by simp
   have hSI:=zlp (0::ds.map (·.day)) (by simp;omega) R1
   rw[hlen] at hSI
   refine vhand [1] [.sl 0 (ds.length+1)] [.row 3 1 ((0::ds.map (·.day)).map (.int .i64))] hSI rfl rfl rfl ?_ (by simp) rfl rfl ?_
   ·try simp only[go_sem]
   rintro R2 bs r hle2 ⟨rfl,rfl,rfl⟩ _
   simp only[go_sem,↓reduceIte,Qa,Qb,setG,e3]
   have hCI:=zhp ((0::ds.map (·.day)).mergeSort fun x y=>decide (x≤y)) (by simp;omega) R2
   rw[List.length_mergeSort,hlen,zf7] at hCI
   refine vhand [1] [.sl 0 (ds.length+1)] [.row 3 1 (((0::ds.map (·.day)).mergeSort fun x y=>decide (x≤y)).map (.int .i64))] hCI rfl rfl rfl ?_ (by simp) rfl rfl ?_
   ·try simp only[go_sem]
    rfl
   rintro R3 bs r hle3 ⟨rfl,rfl,rfl⟩ _
   simp only[go_sem,↓reduceIte,Qb,setG,rn]
   obtain⟨days,hdays⟩:∃days,days=rising (0::ds.map (·.day)):=⟨_,rfl⟩
   have hdl1:days.length≤ds.length+1:=by rw[hdays,←hlen];exact zgn _
   have hd0:days≠[]:=by
    have:(0:Int)∈days:=by rw[hdays,zaJ];simp
    intro e;rw[e] at this;simp at this
   rw[←hdays]
   refine zal (Nat×List Pp) (fun x=>[(31,.val (.int .i64 x.1)),(30,.val (.int .i64 days.length)),(29,.sl 1 days.length),(1,.loc 0 0),(6,gs 2 x.2.length)])
    (fun x=>[.box [.val sr,.val (.int .i64 sm),.val (.int .i64 sl),.val (.string sz),.val (.int .i64 sg),.val (.int .i64 sf),.val smv,.val (.slice a ds.length cap),.val (.int .i64 e)],.row 3 1 ((days++List.replicate (ds.length+1-days.length) 0).map (.int .i64)),gb 57 8 (rowPp x.2)])
    (fun x R=>x.1≤days.length∧(0<x.1→x.2≠[])∧x.2.length≤x.1∧(∀p∈x.2,p.OK R)∧partsGo e (tiOn ⟨.slice none 0 0,sm,sl,sz,sg,sf,.slice none 0 0⟩ rl ds) (days.drop x.1) (x.2.map fun p=>(p.1,p.2.1))=partsGo e (tiOn ⟨.slice none 0 0,sm,sl,sz,sg,sf,.slice none 0 0⟩ rl ds) days []) (fun x=>days.length-x.1) (0,[]) [] ?_ ?_ ?_ ?_
   ·(try simp only[go_sem,↓reduceIte,Qa,Qb,reduceCtorEq])<;>(repeat' (first|rfl|trivial|constructor|(intro h;exact absurd rfl h)))
   ·try simp only[go_sem,Qb,Qe,Qf]
   ·exact⟨Nat.zero_le _,by simp,Nat.le_refl _,by simp,rfl⟩
   rintro⟨i,ps⟩ env R4 hle4 hE ⟨hi,hne,hpl,hpo,hgo⟩
   (simp only[go_sem] at hE;obtain⟨e31,e30,e29,e1',e6⟩:=hE;simp only[go_sem,↓reduceIte,Qa,Qb,e31,e30,e29,e1',e6];dsimp only at *)
   refine⟨fun hlt=>⟨hlt,?_⟩,fun hge=>?_⟩
   ·have hlt':i<days.length:=by omega
    refine⟨.int .i64 days[i],by rw[List.getElem?_map,List.getElem?_append_left hlt',List.getElem?_eq_getElem hlt'];rfl,?_⟩
    have hdrop:=List.drop_eq_getElem_cons hlt'
    rw[hdrop] at hgo
    simp only[go_sem,↓reduceIte,Qa,Qb,Qc,Qd,e1',e6]
    refine⟨fun hge2=>?_,fun hlt2=>?_⟩
    ·refine vgrow (rowPp ps) (fun h0=>by rw[gb_ne h0];rfl) (fun h0=>by rw[h0,zbv];rfl) (by rw[zcA]) (by omega) (by omega) (by omega) ?_
     simp only[go_sem,↓reduceIte,Qa,Qb]
     rw[zb7 hge2] at hgo
     refine⟨ps++[(days[i],Ti.zero,.slice none 0 0)],by simp,fun p hp=>?_,?_,4,by simp,by rw[zek];rfl⟩
     ·rcases List.mem_append.1 hp with hp|hp
      ·exact hpo p hp
      ·simp only[List.mem_cons,List.not_mem_nil,or_false] at hp;subst hp;exact RuleV.nil _
     ·rw[List.map_append]
      refine hgo.trans ?_
      rw[hdays];rfl
    ·refine vcall (eOn ⟨sr,sm,sl,sz,sg,sf,smv⟩ rl ds _ e days[i] R4 (hr.mono (RO.le_trans hle1 (RO.le_trans hle2 (RO.le_trans hle3 hle4)))) (h0.mono (RO.le_trans hle1 (RO.le_trans hle2 (RO.le_trans hle3 hle4))))) ?_
     rintro R5 v hle5 ⟨rv,rfl,hrv⟩
     have hrv1:=hrv.one
     obtain⟨ra,rn,rc,rfl⟩:=hrv.form
     simp only[go_sem,↓reduceIte,Qa,Qb,Qc,Qd,Se.cells,e6]
     have hpo5:∀p∈ps,p.OK R5:=fun p hp=>(hpo p hp).mono hle5
     obtain⟨ti,hti⟩:∃ti,ti=tiOn ⟨.slice none 0 0,sm,sl,sz,sg,sf,.slice none 0 0⟩ rl ds days[i]:=⟨_,rfl⟩
     have happ:∀R6:RO,RO.le R5 R6→∀{k:SV→St→Prop} {t:Tok k} {e:Nat→SV} {b:List Blk},b[2]?=some (gb 57 8 (rowPp ps))→k (.sl b.length (ps.length+1)) ⟨e,b.set 2 .dead++[.row 57 8 (rowPp (ps++[(days[i],ti,.slice ra rn rc)]))],R6⟩ →
       AppT 57 8 104 (gs 2 ps.length) 1 (Pp.cells (days[i],ti,.slice ra rn rc)) ⟨e,b,R6⟩ k t:=by
      intro R6 hle6 k t e b hb hk
      refine vgrow (rowPp ps) (fun h0=>by rw[hb]) (fun h0=>zjc (by rw[hb,h0,zbv])) (by rw[zcA]) (by omega) (by omega) (by omega) ?_
      rw[←zek]
      exact hk
     rcases List.eq_nil_or_concat ps with hps|⟨qs,y,hps⟩
     ·subst hps
      refine⟨fun h=>by simp at h,fun _=>?_⟩
      rw[List.map_nil,zbz (by omega),←hti] at hgo
      have hcl:Pp.cells (days[i],ti,.slice ra rn rc)=[.int .i64 days[i],.slice ra rn rc,.int .i64 (onE days[i] ⟨rl,sm,sl,sz⟩ ds).minute,.int .i64 (onE days[i] ⟨rl,sm,sl,sz⟩ ds).length,.string (onE days[i] ⟨rl,sm,sl,sz⟩ ds).zone,.int .i64 sg,.int .i64 sf,.slice none 0 0]:=by rw[hti];rfl
      rw[←hcl]
      refine happ R5 (RO.le_refl _) rfl ?_
      simp only[go_sem,↓reduceIte,Qa,Qb,Qe,Qf,e31,e30,e29,e1']
      refine⟨_,W.in64 (by omega),(i+1,[(days[i],ti,.slice ra rn rc)]),[0,1,5],?_⟩
      try simp only[go_sem,Qd,reduceCtorEq]
      exact⟨by omega,rfl,by decide,by omega,by rw[hti];exact hrv,hgo⟩
     ·rw[List.concat_eq_append] at hps
      have hpl2:ps.length=qs.length+1:=by rw[hps];simp
      refine⟨fun _=>⟨_,W.in64 (by omega),?_⟩,fun h=>by omega⟩
      obtain⟨yd,yt,yv⟩:=y
      have hyo:RuleV R5 yv yt.rule:=hpo5 (yd,yt,yv) (by rw[hps];simp)
      obtain⟨ya,yn,yc,rfl⟩:=hyo.form
      have hgb:gb 57 8 (rowPp ps) = .row 57 8 (rowPp ps):=gb_ne (fun e=>by have:=zcA ps;rw[e] at this;simp at this;omega)
      have hcell:∀j,(rowPp ps)[qs.length*8+j]?=(Pp.cells (yd,yt,.slice ya yn yc))[j]?:=fun j=>by rw[hps];exact zj3 qs _ j
      have hidx:((ps.length:Int)-1).toNat=qs.length:=by omega
      rw[zaI (by omega),hgb]
      try simp only[go_sem,↓reduceIte,Qa,Qb]
      rw[hidx]
      refine⟨by omega,by omega,?_⟩
      try simp only[go_sem,↓reduceIte,Qa,Qb,Qc,Qd,Qe,Qf,reduceCtorEq]
      refine⟨_,(hcell 1).trans rfl,_,(hcell 2).trans rfl,_,(hcell 3).trans rfl,_,(hcell 4).trans rfl,_,(hcell 5).trans rfl,_,(hcell 6).trans rfl,_,(hcell 7).trans rfl,?_⟩
      simp only[go_sem,↓reduceIte,Qa,Qb,Qc,Qd,Pp.se,e6]
      rw[hps,List.map_append] at hgo
      have hcl:Pp.cells (days[i],ti,.slice ra rn rc)=[.int .i64 days[i],.slice ra rn rc,.int .i64 (onE days[i] ⟨rl,sm,sl,sz⟩ ds).minute,.int .i64 (onE days[i] ⟨rl,sm,sl,sz⟩ ds).length,.string (onE days[i] ⟨rl,sm,sl,sz⟩ ds).zone,.int .i64 sg,.int .i64 sf,.slice none 0 0]:=by rw[hti];rfl
      have hst:zb6 ti yt=(decide (yt.minute=(onE days[i] ⟨rl,sm,sl,sz⟩ ds).minute)&&decide (yt.length=(onE days[i] ⟨rl,sm,sl,sz⟩ ds).length)&&decide ((onE days[i] ⟨rl,sm,sl,sz⟩ ds).rule=yt.rule)):=by rw[hti];rfl
      have hold:zb6 ti yt=true→partsGo e (tiOn ⟨.slice none 0 0,sm,sl,sz,sg,sf,.slice none 0 0⟩ rl ds) (days.drop (i+1)) (ps.map fun p=>(p.1,p.2.1))=partsGo e (tiOn ⟨.slice none 0 0,sm,sl,sz,sg,sf,.slice none 0 0⟩ rl ds) days []:=fun hs=>by
       rw[←hgo,hps,List.map_append]
       exact(zcm (by omega) (by rw[←hti];exact hs)).symm
      have hnew:zb6 ti yt=false→partsGo e (tiOn ⟨.slice none 0 0,sm,sl,sz,sg,sf,.slice none 0 0⟩ rl ds) (days.drop (i+1)) ((ps++[(days[i],ti,Value.slice ra rn rc)]).map fun p=>(p.1,p.2.1))=partsGo e (tiOn ⟨.slice none 0 0,sm,sl,sz,sg,sf,.slice none 0 0⟩ rl ds) days []:=fun hs=>by
       rw[←hgo,List.map_append,hps,List.map_append,hti]
       exact(zb8 (by omega) (by rw[←hti];exact hs)).symm
      clear hgo
      have hpo6:∀R6:RO,RO.le R5 R6→∀p∈ps++[(days[i],ti,Value.slice ra rn rc)],Pp.OK R6 p:=fun R6 hle6 p hp=>by
       rcases List.mem_append.1 hp with hp|hp
       ·exact(hpo5 p hp).mono hle6
       ·simp only[List.mem_cons,List.not_mem_nil,or_false] at hp;subst hp;rw[hti];exact hrv.mono hle6
      refine⟨fun q1=>⟨fun q2=>?_,fun q2=>?_⟩,fun q1=>?_⟩
      ·refine vcall (zhi _ yt.rule _ _ R5 hrv hyo) ?_
       rintro R6 v hle6 rfl
       simp only[go_sem,↓reduceIte,Qa,Qb,Qc,Qd,Qe,Qf,e31,e30,e29,e1',e6]
       refine⟨fun q3=>?_,fun q3=>?_⟩
       ·refine⟨_,W.in64 (by omega),(i+1,ps),[],?_⟩
        try simp only[go_sem]
        exact⟨by omega,rfl,by decide,by omega,fun _=>by rw[hps];simp,by omega,fun p hp=>(hpo5 p hp).mono hle6,hold (by rw[hst];simp[q1,q2,q3])⟩
       ·rw[←hcl,←zaI (show ps.length≠0 by omega),←hgb]
        refine happ R6 hle6 rfl ?_
        simp only[go_sem,↓reduceIte,Qa,Qb,Qe,Qf,e31,e30,e29,e1']
        refine⟨_,W.in64 (by omega),(i+1,ps++[(days[i],ti,.slice ra rn rc)]),[0,1,6],?_⟩
        try simp only[go_sem,Qd]
        exact⟨by omega,rfl,by decide,by omega,fun _=>by simp,by omega,hpo6 R6 hle6,hnew (by rw[hst];simp[q1,q2,q3])⟩
      ·rw[←hcl,←zaI (show ps.length≠0 by omega),←hgb]
       refine happ R5 (RO.le_refl _) rfl ?_
       simp only[go_sem,↓reduceIte,Qa,Qb,Qe,Qf,e31,e30,e29,e1']
       refine⟨_,W.in64 (by omega),(i+1,ps++[(days[i],ti,.slice ra rn rc)]),[0,1,6],?_⟩
       try simp only[go_sem,Qd]
       exact⟨by omega,rfl,by decide,by omega,fun _=>by simp,by omega,hpo6 R5 (RO.le_refl _),hnew (by rw[hst];simp[q1,q2])⟩
      ·rw[←hcl,←zaI (show ps.length≠0 by omega),←hgb]
       refine happ R5 (RO.le_refl _) rfl ?_
       simp only[go_sem,↓reduceIte,Qa,Qb,Qe,Qf,e31,e30,e29,e1']
       refine⟨_,W.in64 (by omega),(i+1,ps++[(days[i],ti,.slice ra rn rc)]),[0,1,6],?_⟩
       try simp only[go_sem,Qd]
       exact⟨by omega,rfl,by decide,by omega,fun _=>by simp,by omega,hpo6 R5 (RO.le_refl _),hnew (by rw[hst];simp[q1])⟩
   ·obtain rfl:i=days.length:=by omega
    rw[List.drop_length,zfb] at hgo
    have h1:ps≠[]:=hne (List.length_pos_iff.2 hd0)
    have h2:ps.length≠0:=fun h=>h1 (List.eq_nil_of_length_eq_zero h)
    refine⟨ps,h1,hpo,?_,2,zaI h2,?_⟩
    ·rw[hgo,hdays];rfl
    ·rw[gb_ne (fun e=>h2 (by have:=zcA ps;rw[e] at this;simp at this;omega))];rfl
def zaR:Option Int→List Mv→Bool
 |_,[]=>true
 |p,m::r=>zaU m&&((match p with|none=>true|some d=>decide (d<m.day))&&zaR (some m.day) r)
def sortM(l:List Mv):List Mv:=l.mergeSort fun a b=>decide (a.day≤b.day)
def zbQ(days:List Int)(day:Int):Nat:=(days.filter fun f=>decide (f≤day)).length-1
def zhq(ps:List (Int×Ti))(ys:List Mv):List Pa:=ps.mapIdx fun i p=>⟨p.1,p.2,ys.filter fun m=>decide (zbQ (ps.map (·.1)) m.day=i)⟩
def mergeP(s:Se)(rl:List Nd)(ms:List Mv)(o:List De):List Pa :=
 zhq (zaQ s rl (forceD o) (endE (forceD o))) (sortM (movesD ms (forceD o) (endE (forceD o))))
def PartV(R:RO)(c:List Value)(p:Pa):Prop:=∃rv mv,c=zgS p.day ⟨rv,p.ti.minute,p.ti.length,p.ti.zone,p.ti.gap,p.ti.fold,mv⟩∧RuleV R rv p.ti.rule∧EncV Mv.cells 5 R mv p.moves
theorem PartV.mono{R R':RO}{c:List Value}{p:Pa}(h:PartV R c p)(hle:RO.le R R'):PartV R' c p:=by
 obtain⟨rv,mv,e,h1,h2⟩:=h
 exact⟨rv,mv,e,h1.mono hle,h2.mono hle⟩
def zdz(R:RO)(v:Value)(ps:List Pa):Prop:=∃cs:List (List Value),SlK R v 8 cs∧cs.length=ps.length∧(∀(i:Nat) (c:List Value) (p:Pa),cs[i]?=some c→ps[i]?=some p→PartV R c p)∧ps.length≤1000000000
theorem zdz.mono{R R':RO}{v:Value}{ps:List Pa}(h:zdz R v ps)(hle:RO.le R R'):zdz R' v ps:=by
 obtain⟨cs,h1,h2,h3,h4⟩:=h
 exact⟨cs,h1.mono hle,h2,fun i c p hi hp=>(h3 i c p hi hp).mono hle,h4⟩
def zdA(R:RO)(r:Value)(s:Se)(rl:List Nd)(ms:List Mv)(ds:List De):Prop:=match allD ds with
 |.error k=>r = .tuple #[.slice none 0 0,.slice none 0 0,.int .i64 k]
 |.ok o=>if s.length<1∨zaR none ms=false then r = .tuple #[.slice none 0 0,.slice none 0 0,.int .i64 1]
  else ∃u v,r = .tuple #[u,v,.int .i64 0]∧zdz R u (mergeP s rl ms o)∧EncV Ov.cells 4 R v (recsD o)
/-! ### Plain facts -/
theorem zj4{d:De}(h:zak d=true):0≤d.day:=by
 unfold zak zbg betw at h
 simp only[Bool.and_eq_true,decide_eq_true_eq] at h
 exact h.1.2.1
theorem zfc:∀{l out o:List De},distD out l=some o→(∀d∈out,zak d=true)→∀d∈o,zak d=true
 |[],out,o,h,hv=>by simp only[distD,Option.some.injEq] at h;subst h;exact hv
 |x::l,out,o,h,hv=>by
  rw[distD] at h
  cases hx:addD out x with
  |none=>rw[hx] at h;cases h
  |some o' =>
   rw[hx] at h
   refine zfc h fun d hd=>?_
   unfold addD at hx
   split at hx
   ·rename_i hvx
    split at hx
    ·split at hx
     ·cases hx;exact hv d hd
     ·cases hx
    ·cases hx
     rcases List.mem_append.1 hd with hd|hd
     ·exact hv d hd
     ·simp only[List.mem_cons,List.not_mem_nil,or_false] at hd;subst hd;exact hvx
   ·cases hx
theorem zil{l o:List De}(h:allD l = .ok o):∃o',distD [] l=some o'∧o=sortD o':=by
 unfold allD at h
 split at h
 ·cases h
 ·cases hd:distD [] l with
  |none=>rw[hd] at h;cases h
  |some o'=>rw[hd] at h;simp only[okD,Except.ok.injEq] at h;exact⟨o',rfl,h.symm⟩
theorem zel{l o:List De}(h:allD l = .ok o):∀d∈o,zak d=true:=by
 obtain⟨o',h1,rfl⟩:=zil h
 intro d hd
 exact zfc h1 (by simp) d ((zcy o').mem_iff.1 hd)
theorem zim{l o:List De}(h:allD l = .ok o):zae o:=by
 obtain⟨o',h1,rfl⟩:=zil h
 exact zc4 (zcz h1 List.Pairwise.nil)
theorem znJ{out o:List De}{d:De}(h:addD out d=some o):o.length≤out.length+1:=by
 unfold addD at h
 split at h
 ·split at h
  ·split at h
   ·cases h;omega
   ·cases h
  ·cases h;simp
 ·cases h
theorem zhr:∀{l out o:List De},distD out l=some o→o.length≤out.length+l.length
 |[],out,o,h=>by simp only[distD,Option.some.injEq] at h;subst h;simp
 |x::l,out,o,h=>by
  rw[distD] at h
  cases hx:addD out x with
  |none=>rw[hx] at h;cases h
  |some o'=>rw[hx] at h;have:=zhr h;have:=znJ hx;simp;omega
theorem znK{l o:List De}(h:allD l = .ok o):o.length≤l.length:=by
 obtain⟨o',h1,rfl⟩:=zil h
 have:=zhr h1
 rw[(zcy o').length_eq];simpa using this
theorem zc7(e:Int)(f:Int→Ti):∀(l:List Int) (out:List (Int×Ti)),∃r,(partsGo e f l out).map (·.1)=out.map (·.1)++r∧r.Sublist l
 |[],out=>⟨[],by simp[partsGo],List.Sublist.refl _⟩
 |d::l,out=>by
  rw[partsGo]
  split
  ·exact⟨[d],by simp,by simp⟩
  ·have h1:∃r,(partsGo e f l out).map (·.1)=out.map (·.1)++r∧r.Sublist (d::l):=by
    obtain⟨r,h1,h2⟩:=zc7 e f l out
    exact⟨r,h1,h2.cons d⟩
   have h2:∃r,(partsGo e f l (out++[(d,f d)])).map (·.1)=out.map (·.1)++r∧r.Sublist (d::l):=by
    obtain⟨r,h1,h2⟩:=zc7 e f l (out++[(d,f d)])
    exact⟨d::r,by rw[h1];simp,h2.cons_cons d⟩
   split
   ·split
    ·exact h1
    ·exact h2
   ·exact h2
theorem zhs(e:Int)(f:Int→Ti)(d:Int)(l:List Int):∃r,(partsGo e f (d::l) []).map (·.1)=d::r∧r.Sublist l:=by
 rw[partsGo]
 split
 ·exact⟨[],by simp,by simp⟩
 ·obtain⟨r,h1,h2⟩:=zc7 e f l [(d,f d)]
  exact⟨r,by simpa using h1,h2⟩
theorem zin{l:List Int}(h:∀x∈l,0≤x):∃r,rising (0::l)=0::r:=by
  have hi:=zba (0::l)
  cases hr:rising (0::l) with
  | nil => have : (0 : Int) ∈ rising (0 :: l) := by rw [zaJ]; simp
           rw[hr] at this;simp at this
  |cons x r =>
    have h0:(0:Int)∈rising (0::l):=by rw[zaJ];simp
    have hx:0≤x:=by
      have:x∈rising (0::l):=by rw[hr];simp
      rw[zaJ] at this
      rcases List.mem_cons.1 this with h'|h'
      · omega
      · exact h x h'
    rw[hr] at h0 hi
    rcases List.mem_cons.1 h0 with h'|h'
    · exact⟨r,by rw[←h']⟩
    · have:=(List.pairwise_cons.1 hi).1 0 h';omega
theorem zdI(s:Se)(rl:List Nd)(ds:List De)(e:Int)(h:∀d∈ds,0≤d.day):Inc ((zaQ s rl ds e).map (·.1))∧(∃r,(zaQ s rl ds e).map (·.1)=0::r)∧(zaQ s rl ds e).length≤ds.length+1:=by
 obtain⟨r,hr⟩:=zin (l:=ds.map (·.day)) (fun x hx=>by obtain⟨d,hd,rfl⟩:=List.mem_map.1 hx;exact h d hd)
 have hi:=zba (0::ds.map (·.day))
 have hl:=zgn (0::ds.map (·.day))
 unfold zaQ
 rw[hr] at *
 obtain⟨q,h1,h2⟩:=zhs e (tiOn s rl ds) 0 r
 refine⟨?_,⟨q,h1⟩,?_⟩
 ·rw[h1];exact List.Pairwise.sublist (h2.cons_cons 0) hi
 ·have h3:=congrArg List.length h1
  rw[List.length_map] at h3
  have:=h2.length_le
  simp at h3 hl
  omega
theorem Inc.filter_le{l:List Int}(h:Inc l){i:Nat}(hi:i<l.length)(day:Int)(h1:l[i]≤day)(h2:∀j,(hj:j<l.length)→i<j→day<l[j]):(l.filter fun f=>decide (f≤day)).length=i+1:=by
 have e:l=l.take (i+1)++l.drop (i+1):=(List.take_append_drop _ _).symm
 have f1:(l.take (i+1)).filter (fun f=>decide (f≤day))=l.take (i+1):=by
  rw[List.filter_eq_self]
  intro a ha
  obtain⟨j,hj,rfl⟩:=List.mem_iff_getElem.1 ha
  rw[List.getElem_take]
  rw[List.length_take] at hj
  have:l[j]≤l[i]:=by
   rcases Nat.lt_or_ge j i with hji|hji
   ·have:=h.get_lt hji hi;omega
   ·have:j=i:=by omega
    subst this;exact Int.le_refl _
  simp;omega
 have f2:(l.drop (i+1)).filter (fun f=>decide (f≤day))=[]:=by
  rw[List.filter_eq_nil_iff]
  intro a ha
  obtain⟨j,hj,rfl⟩:=List.mem_iff_getElem.1 ha
  rw[List.getElem_drop]
  rw[List.length_drop] at hj
  have:=h2 (i+1+j) (by omega) (by omega)
  simp;omega
 conv=>lhs;rw[e]
 rw[List.filter_append,f1,f2,List.append_nil,List.length_take]
 omega
theorem zfd{l:List Int}(h:Inc l){i:Nat}(hi:i<l.length)(day:Int)(h1:l[i]≤day)(h2:∀j,(hj:j<l.length)→i<j→day<l[j]):zbQ l day=i:=by
 unfold zbQ
 rw[Inc.filter_le h hi day h1 h2];omega
theorem zbA{α β:Type}{f:α→β}:∀{l:List α},l.Pairwise (fun a b=>f a≠f b)→∀{a b:α},a∈l→b∈l→f a=f b→a=b
 |[],_,a,b,ha,_,_=>by simp at ha
 |x::l,h,a,b,ha,hb,e=>by
  have h':=List.pairwise_cons.1 h
  rcases List.mem_cons.1 ha with ea|ha2
  ·rcases List.mem_cons.1 hb with eb|hb2
   ·rw[ea,eb]
   ·rw[ea] at e;exact absurd e (h'.1 b hb2)
  ·rcases List.mem_cons.1 hb with eb|hb2
   ·rw[eb] at e;exact absurd e.symm (h'.1 a ha2)
   ·exact zbA h'.2 ha2 hb2 e
theorem zbI(l:List Mv):(sortM l).Perm l:=List.mergeSort_perm _ _
theorem zjp(l:List Mv):(sortM l).Pairwise fun a b=>a.day≤b.day:=by
 have:=List.pairwise_mergeSort (le:=fun a b:Mv=>decide (a.day≤b.day)) (fun a b c h1 h2=>by simp at *;omega) (fun a b=>by simp;omega) l
 exact this.imp fun h=>by simpa using h
theorem znL{l ys:List Mv}(hd:l.Pairwise fun a b=>a.day≠b.day)(hp:ys.Perm l)(hs:ys.Pairwise fun a b=>a.day≤b.day):ys=sortM l :=
 List.Perm.eq_of_pairwise (le:=fun a b:Mv=>a.day≤b.day) (fun a b ha hb h1 h2=>zbA (f:=Mv.day) hd (hp.mem_iff.1 ha) ((zbI l).mem_iff.1 hb) (by omega)) hs (zjp l) (hp.trans (zbI l).symm)
theorem zaO{d:De}(h:zak d=true)(hk:d.kind=1):zaU d.mv=true∧d.mv.day=d.day:=by
 unfold zak zbg at h
 simp only[Bool.and_eq_true] at h
 have h4:=h.2
 unfold kindE at h4
 rw[if_pos (show(d.ed none d.rule.length 0).kind=1 from hk)] at h4
 simp only[Bool.and_eq_true,decide_eq_true_eq] at h4
 exact⟨h4.1.1,h4.1.2⟩
theorem zeH:∀{ms:List Mv} {p:Option Int},zaR p ms=true→(ms.Pairwise fun a b=>a.day<b.day)∧∀d,p=some d→∀m∈ms,d<m.day
 |[],_,_=>⟨List.Pairwise.nil,by simp⟩
 |x::r,p,h=>by
  have h':(zaU x&&((match p with|none=>true|some d=>decide (d<x.day))&&zaR (some x.day) r))=true:=by cases p<;>exact h
  simp only[Bool.and_eq_true] at h'
  obtain⟨h1,h2⟩:=zeH h'.2.2
  refine⟨List.pairwise_cons.2 ⟨fun m hm=>h2 _ rfl m hm,h1⟩,?_⟩
  rintro d rfl m hm
  have h3:d<x.day:=by simpa using h'.2.1
  rcases List.mem_cons.1 hm with rfl|hm
  ·exact h3
  ·have:=h2 _ rfl m hm;omega
theorem zj5{a b:De}(ha:a.kind=1)(hb:b.kind=1):overD a b=(lessD a b&&decide (a.day=b.day)):=by
 unfold overD overE
 rw[if_pos ⟨ha,hb⟩]
 rfl
theorem zaS{o:List De}{d:De}:d∈forceD o↔d∈o∧∀b∈o,overD d b=false:=by
 unfold forceD
 rw[List.mem_filter]
 simp
theorem zd0{o:List De}(h:zae o):zae (forceD o):=List.Pairwise.sublist List.filter_sublist h
theorem zfe{ms:List Mv}{o:List De}{e:Int}(hs:zae o)(hv:∀d∈o,zak d=true)(hm:zaR none ms=true):(movesD ms (forceD o) e).Pairwise fun a b=>a.day≠b.day:=by
 unfold movesD
 rw[List.pairwise_append]
 refine⟨?_,?_,?_⟩
 ·rw[List.pairwise_map]
  have h1:zae ((forceD o).filter zcl):=List.Pairwise.sublist List.filter_sublist (zd0 hs)
  refine List.Pairwise.imp_of_mem (fun{a b} ha hb hab=>?_) h1
  obtain⟨ha1,ha2⟩:=List.mem_filter.1 ha
  obtain⟨hb1,hb2⟩:=List.mem_filter.1 hb
  obtain⟨ha3,ha4⟩:=zaS.1 ha1
  have hb3:=(zaS.1 hb1).1
  have ka:a.kind=1:=by simpa[zcl] using ha2
  have kb:b.kind=1:=by simpa[zcl] using hb2
  rw[(zaO (hv a ha3) ka).2,(zaO (hv b hb3) kb).2]
  intro hd
  have:=ha4 b hb3
  rw[zj5 ka kb,hab,decide_eq_true hd] at this
  cases this
 ·refine List.Pairwise.sublist List.filter_sublist ((zeH hm).1.imp fun h=>?_)
  omega
 ·intro a ha b hb
  obtain⟨d,hd,rfl⟩:=List.mem_map.1 ha
  obtain⟨hd1,hd2⟩:=List.mem_filter.1 hd
  obtain⟨hb1,hb2⟩:=List.mem_filter.1 hb
  have kd:d.kind=1:=by simpa[zcl] using hd2
  rw[(zaO (hv d (zaS.1 hd1).1) kd).2]
  intro hdd
  simp only[Bool.and_eq_true,Bool.not_eq_true',List.any_eq_false] at hb2
  have:=hb2.2.1 d hd1
  simp[zav,kd,hdd] at this
def prevM(ms:List Mv)(i:Nat):Option Int:=if i=0 then none else(ms[i-1]?).map (·.day)
abbrev Pq:=Pa×Value×Value
def Pq.cells(p:Pq):List Value:=zgS p.1.day ⟨p.2.1,p.1.ti.minute,p.1.ti.length,p.1.ti.zone,p.1.ti.gap,p.1.ti.fold,p.2.2⟩
def Pq.OK(R:RO)(p:Pq):Prop:=RuleV R p.2.1 p.1.ti.rule∧EncV Mv.cells 5 R p.2.2 p.1.moves
def rowPq(ps:List Pq):List Value:=(ps.map Pq.cells).flatten
theorem zeX(ps:List Pq):∀c∈ps.map Pq.cells,c.length=8:=fun c hc=>by obtain⟨x,_,rfl⟩:=List.mem_map.1 hc;rfl
theorem zls(ps:List Pq):(rowPq ps).length=ps.length*8:=by
 unfold rowPq
 rw[zag (zeX ps)]
 simp
theorem zlt(ps:List Pq)(i j:Nat)(hi:i<ps.length)(hj:j<8):(rowPq ps)[i*8+j]?=(ps[i].cells)[j]? :=
 getElem?_flatten (zeX ps) i j _ (by rw[List.getElem?_map,List.getElem?_eq_getElem hi];rfl) hj
theorem zio(p:Option Int):zaR p []=true:=by cases p<;>rfl
def ltO:Option Int→Int→Bool
 |none,_=>true
 |some d,x=>decide (d<x)
theorem zht(p:Option Int)(m:Mv)(r:List Mv):zaR p (m::r)=(zaU m&&(ltO p m.day&&zaR (some m.day) r)):=by cases p<;>rfl
theorem zlu(ps:List Pq)(i:Nat)(hi:i<ps.length)(ms:List Mv)(v:Value):(rowPq ps).set (i*8+7) v=rowPq (ps.set i (⟨ps[i].1.day,ps[i].1.ti,ms⟩,ps[i].2.1,v)):=by
 unfold rowPq
 rw[zeV _ (zeX ps) i 7 v (ps[i].cells) (by rw[List.getElem?_map,List.getElem?_eq_getElem hi];rfl) (by omega),List.map_set]
 rfl
def shrM(b cap:Nat)(cur:List Mv):Blk:=if cur=[] then .dead else .shr b cap 50 5 (rowM cur)
theorem zlv{b cap:Nat}{cur:List Mv}(h:cur≠[]):shrM b cap cur = .shr b cap 50 5 (rowM cur):=if_neg h
theorem znM(n b cap:Nat)(cur:List Mv):scB n (shrM b cap cur)=true:=by unfold shrM;split<;>rfl
theorem zlw(ρ sb i b cap cur r):blkM ρ sb i (shrM b cap cur::r)=((cur≠[]→sb[rn ρ i]?=some (shrM b cap cur))∧blkM ρ sb (i+1) r):=by
 unfold shrM
 split
 ·rename_i h;simp[h,zey]
 ·rename_i h;simp[h,zh4]
theorem zj6(k b' c' b cap:Nat)(cur:List Mv):unslB k b' c' (shrM b cap cur)=shrM b cap cur:=by unfold shrM;split<;>rfl
theorem zcP:∀{ms:List Mv} {p:Option Int},zaR p ms=true→∀m∈ms,zaU m=true
 |[],_,_,m,hm=>by simp at hm
 |x::r,p,h,m,hm=>by
  have h':(zaU x&&((match p with|none=>true|some d=>decide (d<x.day))&&zaR (some x.day) r))=true:=by cases p<;>exact h
  simp only[Bool.and_eq_true] at h'
  rcases List.mem_cons.1 hm with rfl|hm
  ·exact h'.1
  ·exact zcP h'.2.2 m hm
theorem zgo{m:Mv}(h:zaU m=true):0≤m.day:=by
 unfold zaU betw at h
 simp only[Bool.and_eq_true,decide_eq_true_eq] at h
 exact h.1.1
theorem zgp{ms:List Mv}{ds:List De}{e:Int}(h1:∀m∈ms,zaU m=true)(h2:∀d∈ds,zak d=true):∀m∈movesD ms ds e,0≤m.day:=by
 intro m hm
 rcases List.mem_append.1 hm with hm|hm
 ·obtain⟨d,hd,rfl⟩:=List.mem_map.1 hm
  obtain⟨hd1,hd2⟩:=List.mem_filter.1 hd
  exact zgo (zaO (h2 d hd1) (by simpa[zcl] using hd2)).1
 ·exact zgo (h1 m (List.mem_filter.1 hm).1)
attribute [local go_sem] znM zlw zj6
theorem EncV.len0{α:Type}{enc:α→List Value}{k:Nat}{R:RO}{a:Option Addr}{c:Nat}{xs:List α}(h:EncV enc k R (.slice a 0 c) xs):xs=[]:=by
 obtain⟨a',cap,e,_⟩:=h.form
 simp only[Value.slice.injEq] at e
 exact List.eq_nil_of_length_eq_zero (by omega)
theorem znN(l x:List Blk):setG l [] x=l++x:=by cases x<;>rfl
theorem zq9(s:Se)(rl:List Nd)(ms:List Mv)(ds:List De)(v:Value)(R:RO)(hr:RuleV R s.rule rl)(hm:EncV Mv.cells 5 R s.moves ms)(h:EdsV R v ds)(hsz:ms.length+ds.length≤63):zaa Tryz.prog 11 [.agg s.cells.toArray,v] R fun R' r=>zdA R' r s rl ms ds:=by
 have hS:=zlr ds v R h
 have hsr:=hr.one
 obtain⟨a0,cap0,rfl,_⟩:=h.form
 have hm0:=hm
 obtain⟨sr,sm,sl,sz,sg,sf,smv⟩:=s
 dsimp only at hr hm hsr hm0
 obtain⟨ra0,rn0,rc0,rfl⟩:=hr.form
 obtain⟨ma,mcap,rfl,hmc,hmf⟩:=hm.form
 simp only[Se.cells]
 refine zac mix Tryz.func11 comp11 (by simp[Tryz.ntmps11]) ?_;simp only[go_sem,↓reduceIte,Qa,vc11,rs11]
 refine vcall hS ?_
 intro R1 r hle1 hr1
 unfold zdA
 unfold RebV at hr1
 cases hall:allD ds with
 |error k =>
  have hk:=zgl hall
  rw[hall] at hr1
  dsimp only at hr1
  subst hr1
  try simp only[go_sem,↓reduceIte,Qa]
  exact fun h0=>by omega
 |ok o =>
  rw[hall] at hr1
  dsimp only at hr1
  obtain⟨u,w,rfl,hu,hw⟩:=hr1
  obtain⟨a,cap,rfl,_⟩:=hu.form
  obtain⟨wa,wcap,rfl,_⟩:=hw.form
  try simp only[go_sem,↓reduceIte,Qa]
  refine⟨fun hl=>?_,fun hl=>?_⟩
  ·rw[if_pos (.inl hl)];trivial
  refine zaj Nat (fun i=>[(33,.val (.int .i64 i)),(32,.val (.int .i64 ms.length)),(31,.val (.slice ma ms.length mcap)),(2,.loc 0 0),(7,.val (.slice a (forceD o).length cap)),(8,.val (.slice wa (recsD o).length wcap))])
   (fun i=>[.box [.val (.slice ra0 rn0 rc0),.val (.int .i64 sm),.val (.int .i64 sl),.val (.string sz),.val (.int .i64 sg),.val (.int .i64 sf),.val (.slice ma ms.length mcap)]])
   (fun i R=>i≤ms.length∧zaR none ms=zaR (prevM ms i) (ms.drop i)) (fun i=>ms.length-i) 0 ?_ ?_ ?_ ?_
  ·(try simp only[go_sem,↓reduceIte,Qa])<;>(repeat' (first|rfl|trivial|constructor|(intro h;exact absurd rfl h)))
  ·try simp only[go_sem,Qe,Qf]
  ·exact⟨Nat.zero_le _,rfl⟩
  ·rintro i env R2 hle2 hE ⟨hi,hok⟩
   (simp only[go_sem] at hE;obtain⟨e33,e32,e31,e2,e7,e8⟩:=hE;simp only[go_sem,↓reduceIte,Qa,Qb,e33,e32,e31,e2,e7];dsimp only at *)
   refine⟨fun hlt=>⟨hlt,?_⟩,fun hge=>?_⟩
   ·have hlt':i<ms.length:=by omega
    obtain⟨ad,had,hR⟩:=hmf i hlt'
    have hdrop:=List.drop_eq_getElem_cons hlt'
    rw[hdrop,zht] at hok
    refine vat ad had ?_
    try simp only[go_sem,↓reduceIte]
    refine zaf (ms[i]).cells rfl (fun j u hj=>hle2 _ _ (hle1 _ _ (hR j u hj))) ?_
    simp only[go_sem,↓reduceIte,Qa,Qb,Mv.cells]
    refine vcall (zge ms[i] R2) ?_
    rintro R3 v hle3 rfl
    simp only[go_sem,↓reduceIte,Qa,Qe,Qf,e33,e32,e31,e2,e7,e8]
    have hnext:zaR (some ms[i].day) (ms.drop (i+1))=zaR (prevM ms (i+1)) (ms.drop (i+1)):=by
     unfold prevM
     rw[if_neg (by omega),show i+1-1=i by omega,List.getElem?_eq_getElem hlt']
     rfl
    refine⟨fun hv=>⟨fun hpos=>?_,fun hz=>?_⟩,fun hv=>?_⟩
    ·obtain⟨ad',had',hR'⟩:=hmf (i-1) (by omega)
     have hti:((i:Int)-1).toNat=i-1:=by omega
     have hp:prevM ms i=some (ms[i-1]).day:=by
      unfold prevM
      rw[if_neg (by omega),List.getElem?_eq_getElem (by omega)]
      rfl
     rw[hp,hv] at hok
     refine⟨_,W.in64 (by omega),by omega,by omega,?_⟩
     rw[hti]
     refine vat ad' had' ?_
     try simp only[go_sem,↓reduceIte,Qa]
     refine vload _ (hle3 _ _ (hle2 _ _ (hle1 _ _ (hR' 0 _ rfl)))) ?_
     simp only[go_sem,↓reduceIte,Qa,Qe,Qf,e33,e32,e31,e2,e7,e8]
     refine⟨fun hge=>?_,fun hlt2=>?_⟩
     ·rw[hok,if_pos (.inr (by simp[ltO];omega))]
      trivial
     ·refine⟨_,W.in64 (by omega),i+1,by omega,by constructor,by omega,?_⟩
      rw[hok,←hnext]
      simp[ltO];omega
    ·obtain rfl:i=0:=by omega
     refine⟨_,W.in64 (by omega),1,by omega,by constructor,by omega,?_⟩
     rw[hok,←hnext,hv]
     rfl
    ·rw[hok,hv,if_pos (.inr rfl)]
     trivial
   ·obtain rfl:i=ms.length:=by omega
    rw[List.drop_length,zio] at hok
    have hm2:(Value.slice ma ms.length mcap).oneCell'=true:=rfl
    refine vcall (zq3 ⟨.slice ra0 rn0 rc0,sm,sl,sz,sg,sf,.slice ma ms.length mcap⟩ (forceD o) _ R2 hsr hm2 (hu.mono hle2)) ?_
    rintro R3 v hle3 rfl
    simp only[go_sem,↓reduceIte,Qa,Qb,Se.cells]
    have hol:=znK hall
    have hfl:(forceD o).length≤o.length:=List.length_filter_le _ _
    have hle13:=RO.le_trans hle1 (RO.le_trans hle2 hle3)
    have hday:∀d∈forceD o,0≤d.day:=fun d hd=>zj4 (zel hall d (List.mem_filter.1 hd).1)
    obtain⟨hinc,hzero,hpl⟩:=zdI ⟨.slice ra0 rn0 rc0,sm,sl,sz,sg,sf,.slice ma ms.length mcap⟩ rl (forceD o) (endE (forceD o)) hday
    have hP:=zq8 ⟨.slice ra0 rn0 rc0,sm,sl,sz,sg,sf,.slice ma ms.length mcap⟩ rl (forceD o) _ (endE (forceD o)) R3 (hr.mono hle13) hm2 (hu.mono (RO.le_trans hle2 hle3)) (by omega)
    have hM:=zq7 ⟨.slice ra0 rn0 rc0,sm,sl,sz,sg,sf,.slice ma ms.length mcap⟩ ms (forceD o) (.slice a (forceD o).length cap) (endE (forceD o))
    obtain⟨pd,hpd⟩:∃pd,pd=zaQ ⟨.slice ra0 rn0 rc0,sm,sl,sz,sg,sf,.slice ma ms.length mcap⟩ rl (forceD o) (endE (forceD o)):=⟨_,rfl⟩
    rw[←hpd] at hinc hzero hpl hP
    refine znu [] [.val (.agg #[.slice ra0 rn0 rc0,.int .i64 sm,.int .i64 sl,.string sz,.int .i64 sg,.int .i64 sf,.slice ma ms.length mcap,.slice a (forceD o).length cap,.int .i64 (endE (forceD o))])] [] hP rfl rfl rfl trivial (by simp) rfl rfl ?_
    rintro R4 bs r hle4 ⟨ps,hne,hpo,hps,j,rfl,hbj⟩ _
    have hpsl:ps.length=pd.length:=by rw[←hps];simp
    have hjl:j<bs.length:=(List.getElem?_eq_some_iff.1 hbj).1
    have hrj:ren ([]++List.range' 2 (bs.length-0)) (.sl j ps.length) = .sl (2+j) ps.length:=by
     simp[ren,rn,hjl]
    obtain⟨bs',hbs'⟩:∃bs',bs'=bs.map (renB ([]++List.range' 2 (bs.length-0))):=⟨_,rfl⟩
    have hb'j:bs'[j]?=some (.row 57 8 (rowPp ps)):=by
     rw[hbs',List.getElem?_map,hbj];rfl
    simp only[go_sem,↓reduceIte,Qa,Qb,znN]
    rw[List.nil_append] at hbs'
    rw[←hbs']
    refine⟨fun h=>by omega,fun _=>?_⟩
    refine vcall (hM R4 rfl (hm0.mono (RO.le_trans hle13 hle4)) (hu.mono (RO.le_trans hle2 (RO.le_trans hle3 hle4))) (by omega)) ?_
    rintro R5 v hle5 ⟨ys,hys,hperm,hpw⟩
    obtain⟨ya,ycap,rfl,hyc,hyf⟩:=hys.form
    try simp only[go_sem,↓reduceIte]
    obtain⟨days,hdays⟩:∃days,days=pd.map (·.1):=⟨_,rfl⟩
    rw[←hdays] at hinc hzero
    have hdl:days.length=pd.length:=by rw[hdays];simp
    have hyl:ys.length≤63:=by
     have h1:=hperm.length_eq
     have h2:(movesD ms (forceD o) (endE (forceD o))).length≤(forceD o).length+ms.length:=by
      unfold movesD
      rw[List.length_append,List.length_map]
      exact Nat.add_le_add (List.length_filter_le _ _) (List.length_filter_le _ _)
     omega
    have hyday:∀m∈ys,0≤m.day:=fun m hm=>zgp (zcP hok) (fun d hd=>zel hall d (List.mem_filter.1 hd).1) m (hperm.mem_iff.1 hm)
    refine zal (Nat×List Pq×Nat×Nat×Nat×List Mv) (fun x=>[(69,.val (.int .i64 x.1)),(68,.val (.int .i64 ys.length)),(67,.val (.slice ya ys.length ycap)),(13,.sl 0 pd.length),(8,.val (.slice wa (recsD o).length wcap))])
     (fun x=>[.row 57 8 (rowPq x.2.1),shrM x.2.2.2.1 x.2.2.2.2.1 x.2.2.2.2.2])
     (fun x R=>x.1≤ys.length∧x.2.1.length=pd.length∧x.2.2.1<pd.length ∧
      (∀(i:Nat) (p:Pq),x.2.1[i]?=some p→pd[i]?=some (p.1.day,p.1.ti)∧p.1.moves=(ys.take x.1).filter (fun m=>decide (zbQ days m.day=i))∧Pq.OK R p∧(x.2.2.1<i→p.2.2 = .slice none 0 0)) ∧
      (∀p:Pq,x.2.1[x.2.2.1]?=some p→p.1.moves=x.2.2.2.2.2∧(x.2.2.2.2.2=[]→p.2.2 = .slice none 0 0)∧(x.2.2.2.2.2≠[]→p.2.2 = .slice (some ⟨x.2.2.2.1,0,none⟩) x.2.2.2.2.2.length x.2.2.2.2.1)) ∧
      (∀(j:Nat) (h:j<ys.length),x.1≤j→∀d,days[x.2.2.1]?=some d→d≤(ys[j]).day)) (fun x=>ys.length-x.1)
     (0,ps.map (fun p=>(⟨p.1,p.2.1,[]⟩,p.2.2,.slice none 0 0)),0,0,0,[]) [2+j,0] ?_ ?_ ?_ ?_
    ·(try simp only[go_sem,↓reduceIte,Qa,Qb])<;>(repeat' (first|rfl|trivial|constructor|(intro h;exact absurd rfl h)))
     ·simp[hjl,hpsl]
     ·rw[show(2:Nat)+j=j+1+1 by omega,List.getElem?_cons_succ,List.getElem?_cons_succ,hb'j]
      unfold rowPp rowPq
      rw[List.map_map]
      rfl
    ·try simp only[go_sem,Qb,Qe,Qf]
     simp[rnInj,rn,List.range_succ]
     omega
    ·dsimp only
     have hpl0:pd≠[]:=by
      obtain⟨r,hz⟩:=hzero
      intro e
      rw[hdays,e] at hz;simp at hz
     refine⟨Nat.zero_le _,by simp[hpsl],List.length_pos_iff.2 hpl0,fun i p hp=>?_,fun p hp=>?_,fun j h _ d hd=>?_⟩
     ·rw[List.getElem?_map] at hp
      obtain⟨q,hq,rfl⟩:=Option.map_eq_some_iff.1 hp
      refine⟨?_,by simp,⟨(hpo q (List.mem_of_getElem? hq)).mono hle5,EncV.nil _ _ _⟩,fun _=>rfl⟩
      rw[←hps,List.getElem?_map,hq];rfl
     ·rw[List.getElem?_map] at hp
      obtain⟨q,hq,rfl⟩:=Option.map_eq_some_iff.1 hp
      exact⟨rfl,fun _=>rfl,fun h=>absurd rfl h⟩
     ·obtain⟨r,hz⟩:=hzero
      rw[hz] at hd
      simp only[List.getElem?_cons_zero,Option.some.injEq] at hd
      have:=hyday _ (List.getElem_mem h)
      omega
    rintro⟨k,pqs,c,b,cap2,cur⟩ env R6 hle6 hE ⟨hk,hpl2,hc,hparts,hcur,hrest⟩
    (simp only[go_sem] at hE;obtain⟨e69,e68,e67,e13,e8⟩:=hE;simp only[go_sem,↓reduceIte,Qa,Qb,e69,e68,e67,e13,e8];dsimp only at *)
    refine⟨fun hlt=>⟨hlt,?_⟩,fun hge=>?_⟩
    ·have hlt':k<ys.length:=by omega
     obtain⟨ad,had,hR⟩:=hyf k hlt'
     obtain⟨m,hm⟩:∃m,m=ys[k]:=⟨_,rfl⟩
     rw[←hm] at hR
     refine vat ad had ?_
     try simp only[go_sem,↓reduceIte]
     refine zaf m.cells rfl (fun j u hj=>hle6 _ _ (hR j u hj)) ?_
     simp only[go_sem,↓reduceIte,Qa,Qb,Mv.cells,e13]
     refine⟨_,W.in64 (by omega),?_⟩
     refine zaj Nat (fun i=>[(16,.val (.int .i64 i)),(15,.loc 2 0),(13,.sl 0 pd.length),(69,.val (.int .i64 k)),(68,.val (.int .i64 ys.length)),(67,.val (.slice ya ys.length ycap)),(8,.val (.slice wa (recsD o).length wcap))])
      (fun _=>[.row 57 8 (rowPq pqs),shrM b cap2 cur,.box [.val (.int .i64 m.day),.val (.bool m.drop),.val (.int .i64 m.toDay),.val (.int .i64 m.minute),.val (.int .i64 m.length)]])
      (fun i _=>i<pd.length∧∀j,(hj:j<days.length)→i<j→m.day<days[j]) (fun i=>i) (pd.length-1) ?_ ?_ ?_ ?_
     ·(try simp only[go_sem,↓reduceIte,Qa,Qb])<;>(repeat' (first|rfl|trivial|constructor|(intro h;exact absurd rfl h)))
      congr 2;omega
     ·try simp only[go_sem,Qb,Qe,Qf]
     ·exact⟨by omega,fun j hj hij=>by omega⟩
     rintro i env R7 hle7 hE ⟨hi,hnot⟩
     (simp only[go_sem] at hE;obtain⟨e16,e15,e13',e69',e68',e67',e8'⟩:=hE;simp only[go_sem,↓reduceIte,Qa,Qb,e16,e15,e13'];dsimp only at *)
     have hil:i<pqs.length:=by omega
     obtain⟨p,hp⟩:∃p,p=pqs[i]:=⟨_,rfl⟩
     obtain⟨hq1,hq2,hq3,hq4⟩:=hparts i p (by rw[hp];exact List.getElem?_eq_getElem hil)
     have hcell:∀j,j<8→(rowPq pqs)[i*8+j]?=p.cells[j]?:=fun j hj=>by rw[zlt pqs i j hil hj,hp]
     have hdi:days[i]?=some p.1.day:=by rw[hdays,List.getElem?_map,hq1];rfl
     try simp only[go_sem,↓reduceIte,Qa,Qb,Qc,Qd,Qe,Qf,reduceCtorEq]
     have hc0:=hcell 0 (by omega)
     rw[Nat.add_zero] at hc0
     refine⟨by omega,_,hc0.trans rfl,?_⟩
     try simp only[go_sem,↓reduceIte,Qa]
     refine⟨fun hgt=>?_,fun hle=>?_⟩
     ·have hi0:i≠0:=by
       rintro rfl
       obtain⟨r,hz⟩:=hzero
       rw[hz] at hdi
       simp only[List.getElem?_cons_zero,Option.some.injEq] at hdi
       have:=hyday m (by rw[hm];exact List.getElem_mem hlt')
       omega
      simp only[go_sem,↓reduceIte,Qa,Qb,Qe,Qf,e16,e15,e13',e69',e68',e67',e8']
      refine⟨_,W.in64 (by omega),i-1,by omega,?_,by omega,fun j hj hij=>?_⟩
      ·congr 2;omega
      ·by_cases hji:j=i
       ·subst hji
        have:=(List.getElem?_eq_some_iff.1 hdi).2
        omega
       ·exact hnot j hj (by omega)
     ·have hpart:zbQ days m.day=i:=zfd hinc (by omega) m.day (by have:=(List.getElem?_eq_some_iff.1 hdi).2;omega) (fun j hj hij=>hnot j hj hij)
      have hci:c≤i:=by
       rcases Nat.lt_or_ge i c with h|h
       ·have h1:=hnot c (by omega) h
        have h2:=hrest k hlt' (Nat.le_refl _) _ (List.getElem?_eq_getElem (by omega:c<days.length))
        rw[←hm] at h2
        omega
       ·exact h
      have hmv:(p.2.2 = .slice none 0 0∧p.1.moves=[])∨(c=i∧cur≠[]∧p.2.2 = .slice (some ⟨b,0,none⟩) cur.length cap2∧p.1.moves=cur):=by
       rcases Nat.lt_or_ge c i with h|h
       ·have h1:=hq4 h
        have h2:=hq3.2
        rw[h1] at h2
        exact .inl ⟨h1,EncV.len0 h2⟩
       ·have hce:c=i:=by omega
        subst hce
        obtain⟨g1,g2,g3⟩:=hcur p (by rw[hp];exact List.getElem?_eq_getElem hil)
        by_cases hn:cur=[]
        ·exact .inl ⟨g2 hn,by rw[g1,hn]⟩
        ·exact .inr ⟨rfl,hn,g3 hn,g1⟩
      obtain⟨pa,prv,pmv⟩:=p
      dsimp only at hmv hq1 hq2 hq3 hq4 hdi hle
      simp only[go_sem,↓reduceIte,e16,e13']
      refine⟨by omega,_,(hcell 7 (by omega)).trans rfl,?_⟩
      simp only[go_sem]
      have hnew:∀(R8:RO) (nv:Value),RO.le R6 R8→EncV Mv.cells 5 R8 nv (pa.moves++[m])→∀(i':Nat) (p':Pq),(pqs.set i (⟨pqs[i].1.day,pqs[i].1.ti,pa.moves++[m]⟩,pqs[i].2.1,nv))[i']?=some p' →
        pd[i']?=some (p'.1.day,p'.1.ti)∧p'.1.moves=(ys.take (k+1)).filter (fun m=>decide (zbQ days m.day=i'))∧Pq.OK R8 p'∧(i<i'→p'.2.2 = .slice none 0 0):=by
       intro R8 nv hle8 hE i' p' hp'
       have hflt:=zcO (fun m=>decide (zbQ days m.day=i')) ys k hlt'
       rw[←hm] at hflt
       rw[List.getElem?_set] at hp'
       split at hp'
       ·rename_i hii
        subst hii
        simp only[Option.some.injEq] at hp'
        subst hp'
        rw[←hp]
        refine⟨hq1,?_,⟨hq3.1.mono hle8,hE⟩,fun h=>by omega⟩
        rw[hflt,if_pos (by simpa using hpart),←hq2]
       ·rename_i hii
        obtain⟨g1,g2,g3,g4⟩:=hparts i' p' hp'
        refine⟨g1,?_,⟨g3.1.mono hle8,g3.2.mono hle8⟩,fun h=>g4 (by omega)⟩
        rw[hflt,if_neg (by simp only[decide_eq_true_eq];omega),List.append_nil,←g2]
      have hrest':∀(j:Nat) (h:j<ys.length),k+1≤j→∀d,days[i]?=some d→d≤(ys[j]).day:=fun j h hkj d hd=>by
       rw[hdi] at hd
       simp only[Option.some.injEq] at hd
       have h1:=(List.pairwise_iff_getElem.1 hpw) k j hlt' h (by omega)
       rw[←hm] at h1
       omega
      have hself:∀nv:Value,∀p':Pq,(pqs.set i (⟨pqs[i].1.day,pqs[i].1.ti,pa.moves++[m]⟩,pqs[i].2.1,nv))[i]?=some p'→p'.1.moves=pa.moves++[m]∧p'.2.2=nv:=fun nv p' hp'=>by
       rw[List.getElem?_set,if_pos rfl,if_pos hil] at hp'
       simp only[Option.some.injEq] at hp'
       subst hp'
       exact⟨rfl,rfl⟩
      have hset:=zlu pqs i hil (pa.moves++[m])
      have hrl:=zls pqs
      rcases hmv with⟨rfl,hmn⟩|⟨rfl,hcn,rfl,hmc⟩
      ·try simp only[go_sem,↓reduceIte,Qa]
       refine⟨fun h=>by simp at h,fun _=>?_⟩
       simp only[go_sem,↓reduceIte,Qa,Qb,Qc,Qd,Qe,Qf,reduceCtorEq,e16,e15,e13',e69',e68',e67',e8']
       refine⟨by omega,?_⟩
       intro b1 cap1 R8 hle8 hrow hcap8 hfr
       have hE:EncV Mv.cells 5 R8 (.slice (some ⟨b1,0,none⟩) 1 cap1) [m]:=RowIn.enc (enc:=Mv.cells) (k:=5) (xs:=[m]) (fun _=>rfl) (by omega) hrow hcap8 (by simp)
       rw[hmn,List.nil_append] at hnew hself hset
       refine⟨by omega,_,W.in64 (by omega),(k+1,pqs.set i (⟨pqs[i].1.day,pqs[i].1.ti,[m]⟩,pqs[i].2.1,.slice (some ⟨b1,0,none⟩) 1 cap1),i,b1,cap1,[m]),[0,4],?_⟩
       try simp only[go_sem,reduceCtorEq]
       refine⟨by omega,⟨rfl,hset _,rfl⟩,by decide,by omega,hpl2,hi,hnew R8 _ (RO.le_trans hle7 hle8) hE,hself _,hrest'⟩
      ·have hcl:cur.length≤k:=by
        rw[←hmc,hq2]
        exact Nat.le_trans (List.length_filter_le _ _) (by rw[List.length_take];omega)
       try simp only[go_sem,↓reduceIte,Qa]
       refine⟨fun h=>by omega,fun _=>?_⟩
       simp only[go_sem,↓reduceIte,Qa,Qb,Qc,e16,e15,e13']
       obtain⟨n,hn⟩:∃n,cur.length=n+1:=⟨cur.length-1,by have:=List.length_pos_iff.2 hcn;omega⟩
       rw[hn]
       try simp only[go_sem]
       refine vapp 1 (rowM cur) (by rw[zlv hcn];rfl) rfl rfl (by rw[zby,hn]) (by omega) ?_
       intro b' cap' R8 hle8 hrow hcap8
       simp only[go_sem,↓reduceIte,Qa,Qb,Qe,Qf,e13',e69',e68',e67',e8']
       have hE:EncV Mv.cells 5 R8 (.slice (some ⟨b',0,none⟩) (n+1+1) cap') (cur++[m]):=by
        have h1:=RowIn.enc (enc:=Mv.cells) (k:=5) (xs:=cur++[m]) (R:=R8) (b:=b') (cap:=cap') (fun _=>rfl) (by omega) (by have:=zb5 cur m;unfold rowM at this;rw[this];exact hrow) (by have:=zb5 cur m;unfold rowM at this;rw[this];exact hcap8) (by simp;omega)
        rw[List.length_append,hn] at h1
        exact h1
       rw[hmc] at hnew hself hset
       refine⟨by omega,by omega,_,W.in64 (by omega),(k+1,pqs.set c (⟨pqs[c].1.day,pqs[c].1.ti,cur++[m]⟩,pqs[c].2.1,.slice (some ⟨b',0,none⟩) (n+1+1) cap'),c,b',cap',cur++[m]),[0,1],?_⟩
       try simp only[go_sem]
       refine⟨by omega,⟨rfl,hset _,fun h=>by rw[zlv h,zb5];rfl⟩,by decide,by omega,hpl2,hi,hnew R8 _ (RO.le_trans hle7 hle8) hE,fun p hp=>⟨(hself _ p hp).1,by simp,fun _=>?_⟩,hrest'⟩
       rw[(hself _ p hp).2]
       simp[hn]
    ·obtain rfl:k=ys.length:=by omega
     rw[List.take_length] at hparts
     intro b1 cap1 R7 hle7 hrow hcap hfr
     rw[if_neg (by simp[hok];omega)]
     have hye:ys=sortM (movesD ms (forceD o) (endE (forceD o))):=znL (zfe (zim hall) (zel hall) hok) hperm hpw
     have hsl:=RowIn.slK hrow (zeX pqs) (by omega) hcap
     rw[List.length_map,hpl2] at hsl
     have hml:(mergeP ⟨.slice ra0 rn0 rc0,sm,sl,sz,sg,sf,.slice ma ms.length mcap⟩ rl ms o).length=pd.length:=by
      unfold mergeP zhq
      rw[List.length_mapIdx,←hpd]
     refine⟨_,_,rfl,⟨_,hsl,by rw[List.length_map,hml,hpl2],fun i q pa hq hpa=>?_,by rw[hml];omega⟩,hw.mono (RO.le_trans hle2 (RO.le_trans hle3 (RO.le_trans hle4 (RO.le_trans hle5 (RO.le_trans hle6 hle7)))))⟩
     rw[List.getElem?_map] at hq
     obtain⟨p,hp,rfl⟩:=Option.map_eq_some_iff.1 hq
     obtain⟨g1,g2,g3,_⟩:=hparts i p hp
     unfold mergeP zhq at hpa
     rw[List.getElem?_mapIdx,←hpd,g1,←hdays,←hye] at hpa
     simp only[Option.map_some,Option.some.injEq] at hpa
     subst hpa
     refine⟨p.2.1,p.2.2,rfl,g3.1.mono hle7,?_⟩
     dsimp only
     rw[←g2]
     exact g3.2.mono hle7
def EdC(R:RO)(v:Value)(es:List Ed):Prop:=SlK R v 13 (es.map Ed.cells)
theorem EdC.mono{R R':RO}{v:Value}{es:List Ed}(h:EdC R v es)(hle:RO.le R R'):EdC R' v es:=SlK.mono h hle
theorem EdC.form{R:RO}{v:Value}{es:List Ed}(h:EdC R v es):∃a cap,v = .slice a es.length cap∧es.length≤cap∧∀i (hi:i<es.length),∃ad,a=some ad∧∀j u,((es[i]).cells)[j]?=some u→R ((ad.add (i*13)).add j) u:=by
 obtain⟨a,cap,rfl,hc,hf⟩:=SlK.form h
 rw[List.length_map] at hc
 refine⟨a,cap,by rw[List.length_map],hc,fun i hi=>?_⟩
 obtain⟨_,ad,ha,hR⟩:=hf i (by rw[List.length_map];exact hi)
 rw[List.getElem_map] at hR
 exact⟨ad,ha,hR⟩
theorem zdz.form{R:RO}{v:Value}{ps:List Pa}(h:zdz R v ps):∃a cap,v = .slice a ps.length cap∧ps.length≤cap∧∀i (hi:i<ps.length),∃ad ra rn rc ma mc,a=some ad ∧
  (∀j u,(zgS (ps[i]).day ⟨.slice ra rn rc,(ps[i]).ti.minute,(ps[i]).ti.length,(ps[i]).ti.zone,(ps[i]).ti.gap,(ps[i]).ti.fold,.slice ma (ps[i]).moves.length mc⟩)[j]?=some u→R ((ad.add (i*8)).add j) u)∧RuleV R (.slice ra rn rc) (ps[i]).ti.rule∧EncV Mv.cells 5 R (.slice ma (ps[i]).moves.length mc) (ps[i]).moves:=by
 obtain⟨cs,h1,h2,h3,h4⟩:=h
 obtain⟨a,cap,rfl,hc,hf⟩:=SlK.form h1
 refine⟨a,cap,by rw[h2],by omega,fun i hi=>?_⟩
 obtain⟨_,ad,ha,hR⟩:=hf i (by omega)
 obtain⟨rv,mv,e,g1,g2⟩:=h3 i _ _ (List.getElem?_eq_getElem (by omega)) (List.getElem?_eq_getElem hi)
 obtain⟨ra,rn,rc,rfl⟩:=g1.form
 obtain⟨ma,mc,rfl,_⟩:=g2.form
 rw[e] at hR
 exact⟨ad,ra,rn,rc,ma,mc,ha,hR,g1,g2⟩
theorem zgT(a:Addr)(i j k:Nat)(h:j+k=i):(a.add j).add k=a.add i:=by rw[zdk,h]
theorem zj7(xs ys:List Pa)(v u:Value)(R:RO)(h:zdz R v xs)(k:zdz R u ys):zaa Tryz.prog 41 [v,u] R fun _ r=>r = .bool (decide (xs=ys)):=by
 have hxl:xs.length≤1000000000:=by obtain⟨_,_,_,_,h⟩:=h;exact h
 obtain⟨a,cap,rfl,hc,hf⟩:=h.form
 obtain⟨b,cap',rfl,hc',hf'⟩:=k.form
 refine zac mix Tryz.func41 comp41 (by simp[Tryz.ntmps41]) ?_;simp only[go_sem,↓reduceIte,Qa,reduceCtorEq,vc41,rs41]
 refine⟨fun hne=>?_,fun he=>?_⟩
 ·rw[decide_eq_false];rintro rfl;exact hne rfl
 have he':xs.length=ys.length:=by omega
 refine zaj Nat (fun i=>[(5,.val (.int .i64 i)),(0,.val (.slice a xs.length cap)),(1,.val (.slice b ys.length cap'))]) (fun _=>[]) (fun i _=>i≤xs.length∧xs.take i=ys.take i) (fun i=>xs.length-i) 0 ?_ rfl ?_ ?_
 ·(try simp only[go_sem,↓reduceIte,Qa,reduceCtorEq])<;>(repeat' (first|rfl|trivial|constructor|(intro h;exact absurd rfl h)))
 ·exact⟨Nat.zero_le _,rfl⟩
 rintro i env R1 hle hE ⟨hi,hp⟩
 (simp only[go_sem] at hE;obtain⟨e5,e0,e1⟩:=hE;simp only[go_sem,↓reduceIte,Qa,reduceCtorEq,e5,e0];dsimp only at *)
 refine⟨fun hlt=>⟨hlt,?_⟩,fun hge=>?_⟩
 ·have hlt':i<xs.length:=by omega
  obtain⟨ad,ra,rn,rc,ma,mc,had,hR,hr,hm⟩:=hf i hlt'
  obtain⟨ad',ra',rn',rc',ma',mc',had',hR',hr',hm'⟩:=hf' i (by omega)
  obtain⟨x,hxe⟩:∃x,x=xs[i]:=⟨_,rfl⟩
  obtain⟨y,hye⟩:∃y,y=ys[i]:=⟨_,rfl⟩
  rw[←hxe] at hR hr hm
  rw[←hye] at hR' hr' hm'
  have hT:=zjZ ⟨.slice ra rn rc,x.ti.minute,x.ti.length,x.ti.zone,x.ti.gap,x.ti.fold,.slice ma x.moves.length mc⟩ ⟨.slice ra' rn' rc',y.ti.minute,y.ti.length,y.ti.zone,y.ti.gap,y.ti.fold,.slice ma' y.moves.length mc'⟩ x.ti.rule y.ti.rule R1 (hr.mono hle) (hr'.mono hle)
  have hM:=fun R2 hle2=>zjY x.moves y.moves _ _ R2 ((hm.mono hle).mono hle2) ((hm'.mono hle).mono hle2)
  refine vat ad had ?_
  try simp only[go_sem,↓reduceIte]
  refine zaf (Se.cells ⟨.slice ra rn rc,x.ti.minute,x.ti.length,x.ti.zone,x.ti.gap,x.ti.fold,.slice ma x.moves.length mc⟩) rfl (fun j u hj=>by show R1 (((ad.add (i*8)).add 1).add j) u;rw[zgT _ (1+j) 1 j rfl];exact hle _ _ (hR (1+j) u (by rw[Nat.add_comm];exact hj))) ?_
  simp only[go_sem,↓reduceIte,Qa,e5,e1]
  refine⟨by omega,vat ad' had' ?_⟩
  try simp only[go_sem,↓reduceIte]
  refine zaf (Se.cells ⟨.slice ra' rn' rc',y.ti.minute,y.ti.length,y.ti.zone,y.ti.gap,y.ti.fold,.slice ma' y.moves.length mc'⟩) rfl (fun j u hj=>by show R1 (((ad'.add (i*8)).add 1).add j) u;rw[zgT _ (1+j) 1 j rfl];exact hle _ _ (hR' (1+j) u (by rw[Nat.add_comm];exact hj))) ?_
  simp only[go_sem,↓reduceIte,Qa]
  refine vcall hT ?_
  rintro R2 w h2 rfl
  simp only[go_sem,↓reduceIte,Qa,reduceCtorEq,e5,e0]
  refine⟨by omega,vat ad had ?_⟩
  try simp only[go_sem,↓reduceIte,Qb]
  refine vload (.slice ma x.moves.length mc) (h2 _ _ (hle _ _ (hR 7 _ rfl))) ?_
  simp only[go_sem,↓reduceIte,Qa,e5,e1]
  refine⟨by omega,vat ad' had' ?_⟩
  try simp only[go_sem,↓reduceIte,Qb]
  refine vload (.slice ma' y.moves.length mc') (h2 _ _ (hle _ _ (hR' 7 _ rfl))) ?_
  simp only[go_sem,↓reduceIte,Qa]
  refine vcall (hM R2 h2) ?_
  rintro R3 w h3 rfl
  have hxy:x=y↔x.day=y.day∧x.ti=y.ti∧x.moves=y.moves:=by
   obtain⟨_,_,_⟩:=x
   obtain⟨_,_,_⟩:=y
   simp
  have hne:¬ x=y→decide (xs=ys)=false:=fun h=>by
   rw[decide_eq_false];rintro rfl;exact h (by rw[hxe,hye])
  have hti:(Se.ti ⟨.slice ra rn rc,x.ti.minute,x.ti.length,x.ti.zone,x.ti.gap,x.ti.fold,.slice ma x.moves.length mc⟩ x.ti.rule=Se.ti ⟨.slice ra' rn' rc',y.ti.minute,y.ti.length,y.ti.zone,y.ti.gap,y.ti.fold,.slice ma' y.moves.length mc'⟩ y.ti.rule)=(x.ti=y.ti):=rfl
  simp only[hti]
  simp only[go_sem,↓reduceIte,Qa,reduceCtorEq,e5,e0]
  refine⟨fun h4=>⟨fun h5=>?_,fun h5=>?_⟩,fun h4=>?_⟩
  ·refine⟨by omega,vat ad had ?_⟩
   try simp only[go_sem,↓reduceIte,Qa]
   refine vload (.int .i64 x.day) (h3 _ _ (h2 _ _ (hle _ _ (hR 0 _ rfl)))) ?_
   simp only[go_sem,↓reduceIte,Qa,e5,e1]
   refine⟨by omega,vat ad' had' ?_⟩
   try simp only[go_sem,↓reduceIte,Qa]
   refine vload (.int .i64 y.day) (h3 _ _ (h2 _ _ (hle _ _ (hR' 0 _ rfl)))) ?_
   simp only[go_sem,↓reduceIte,Qa,Qf,reduceCtorEq,e5,e0,e1]
   refine⟨fun h6=>?_,fun h6=>?_⟩
   ·rw[hne (fun e=>h6 (hxy.1 e).1)]
   ·refine⟨_,W.in64 (by omega),i+1,by omega,by constructor,by omega,?_⟩
    rw[List.take_succ_eq_append_getElem (by omega:i<xs.length),List.take_succ_eq_append_getElem (by omega:i<ys.length),hp,←hxe,←hye,hxy.2 ⟨h6,h4,h5⟩]
  ·rw[hne (fun e=>h5 (hxy.1 e).2.2)]
  ·rw[hne (fun e=>h4 (hxy.1 e).2.1)]
 ·obtain rfl:i=xs.length:=by omega
  rw[List.take_length,he',List.take_length] at hp
  simp[hp]
def ed0(e:Ed):Ed:=⟨0,e.day,0,0,e.mv,0,0,none,0,0,⟨#[]⟩⟩
def mvOf(e:Ed):Mv:=(madeE (ed0 e)).mv
def isOn(day:Int)(e:Ed):Bool:=decide (e.day%10=day)
def mvOn(es:List Ed)(day:Nat):Option Mv:=((es.take 4).find? (isOn day)).map mvOf
def zgU(es:List Ed):List Mv:=(List.range 10).filterMap (mvOn es)
theorem zjq(e:Ed):(mvOf e).day=e.day%10:=by
 unfold mvOf madeE ed0
 simp only[Int.zero_emod,Int.add_zero,if_true]
 split<;>rfl
theorem zj8(e:Ed):(madeE (ed0 e)).day=e.day%10:=by
 unfold madeE ed0;simp
theorem znO{es:List Ed}{day:Nat}{m:Mv}(h:mvOn es day=some m):m.day=day:=by
 unfold mvOn at h
 obtain⟨e,he,rfl⟩:=Option.map_eq_some_iff.1 h
 have:=List.find?_some he
 rw[zjq]
 simpa[isOn] using this
theorem zff(es:List Ed)(n:Nat):∀m∈(List.range n).filterMap (mvOn es),m.day<n:=by
 intro m hm
 obtain⟨day,hd,hm'⟩:=List.mem_filterMap.1 hm
 rw[znO hm']
 have:=List.mem_range.1 hd
 omega
theorem ziq(minute:Int)(es:List Ed)(v:Value)(R:RO)(h:EdC R v es)(hl:es.length≤1099511627776):zaa Tryz.prog 8 [.int .i64 minute,v] R fun R' u =>
  ∃rv mv,u = .agg (Se.cells ⟨rv,minute%3,1,zA,0,0,mv⟩).toArray∧RuleV R' rv (ruleN minute)∧EncV Mv.cells 5 R' mv (zgU es):=by
 obtain⟨a,cap,rfl,hc,hf⟩:=h.form
 refine zac mix Tryz.func8 comp8 (by simp[Tryz.ntmps8]) ?_;simp only[go_sem,↓reduceIte,reduceCtorEq,vc8,rs8]
 refine vcall (eRule minute R) ?_
 intro R1 rv hle1 hrv
 obtain⟨ra,rn,rc,rfl⟩:=hrv.form
 try simp only[go_sem,↓reduceIte,reduceCtorEq]
 refine vcall (zc1 minute 3 (by omega) R1) ?_
 rintro R2 v hle2 rfl
 try simp only[go_sem,↓reduceIte,Qa,Qb,Qd]
 refine zal (Nat×List Mv) (fun x=>[(6,.val (.int .i64 x.1)),(4,.loc 0 0),(5,.loc 1 0),(1,.val (.slice a es.length cap))])
  (fun x=>[.box [.val (.slice none 0 0),.val (.int .i64 0),.val (.int .i64 0),.val (.string ⟨#[]⟩),.val (.int .i64 0),.val (.int .i64 0),.val (.slice none 0 0)],.box [.val (.slice ra rn rc),.val (.int .i64 (minute%3)),.val (.int .i64 1),.val (.string zA),.val (.int .i64 0),.val (.int .i64 0),gs 2 x.2.length],gb 50 5 (rowM x.2)])
  (fun x R=>x.1≤10∧x.2=(List.range x.1).filterMap (mvOn es)∧x.2.length≤x.1) (fun x=>10-x.1) (0,[]) [] ?_ ?_ ?_ ?_
 ·(try simp only[go_sem,↓reduceIte,Qa,Qb,reduceCtorEq])<;>(repeat' (first|rfl|trivial|constructor|(intro h;exact absurd rfl h)))
 ·try simp only[go_sem,Qb,Qe,Qf]
 ·exact⟨Nat.zero_le _,rfl,Nat.le_refl _⟩
 rintro⟨day,ms⟩ env R3 hle3 hE ⟨hd10,hms,hml⟩
 (simp only[go_sem] at hE;obtain⟨e6,e4,e5,e1⟩:=hE;simp only[go_sem,↓reduceIte,Qa,Qb,e6,e5];dsimp only at *)
 refine⟨fun hlt=>?_,fun hge=>?_⟩
 ·refine zal (Nat×List Mv) (fun x=>[(7,.val (.int .i64 x.1)),(6,.val (.int .i64 day)),(4,.loc 0 0),(5,.loc 1 0),(1,.val (.slice a es.length cap))])
   (fun x=>[.box [.val (.slice none 0 0),.val (.int .i64 0),.val (.int .i64 0),.val (.string ⟨#[]⟩),.val (.int .i64 0),.val (.int .i64 0),.val (.slice none 0 0)],.box [.val (.slice ra rn rc),.val (.int .i64 (minute%3)),.val (.int .i64 1),.val (.string zA),.val (.int .i64 0),.val (.int .i64 0),gs 2 x.2.length],gb 50 5 (rowM x.2)])
   (fun x R=>x.1≤4∧x.1≤es.length∧x.2=ms++(((es.take x.1).find? (isOn day)).map mvOf).toList) (fun x=>4-x.1) (0,ms) [] ?_ ?_ ?_ ?_
  ·(try simp only[go_sem,↓reduceIte,Qa,Qb])<;>(repeat' (first|rfl|trivial|constructor|(intro h;exact absurd rfl h)))
   exact fun h=>gb_ne h
  ·try simp only[go_sem,Qb,Qe,Qf]
  ·exact⟨Nat.zero_le _,Nat.zero_le _,by simp⟩
  rintro⟨i,qs⟩ env R4 hle4 hE ⟨hi4,hil,hqs⟩
  (simp only[go_sem] at hE;obtain⟨e7,e6',e4',e5',e1'⟩:=hE;simp only[go_sem,↓reduceIte,Qa,Qb,Qe,Qf,e7,e6',e4',e5',e1'];dsimp only at *)
  have hdm:=zff es day
  rw[←hms] at hdm
  have hql:qs.length≤ms.length+1:=by
   rw[hqs,List.length_append]
   cases(es.take i).find? (isOn day)<;>simp
  have hend:¬ (i<es.length∧i<4)→qs=(List.range (day+1)).filterMap (mvOn es):=fun hn=>by
   have:es.take 4=es.take i:=by
    by_cases h12:i=4
    ·rw[h12]
    ·rw[List.take_of_length_le (by omega),List.take_of_length_le (by omega)]
   rw[hqs,List.range_succ,List.filterMap_append,←hms]
   congr 1
   unfold mvOn
   rw[this,List.filterMap_cons,List.filterMap_nil]
   cases(es.take i).find? (isOn day)<;>rfl
  refine⟨fun hlt2=>⟨fun hlt3=>?_,fun hge3=>?_⟩,fun hge2=>?_⟩
  ·have hlt':i<es.length:=by omega
   obtain⟨ad,had,hR⟩:=hf i hlt'
   obtain⟨e,he⟩:∃e,e=es[i]:=⟨_,rfl⟩
   rw[←he] at hR
   have hRR:∀j u,e.cells[j]?=some u→R4 ((ad.add (i*13)).add j) u:=fun j u hj=>hle4 _ _ (hle3 _ _ (hle2 _ _ (hle1 _ _ (hR j u hj))))
   have hfs:(es.take (i+1)).find? (isOn day)=((es.take i).find? (isOn day)).or (if isOn day e=true then some e else none):=by
    rw[List.take_succ_eq_append_getElem hlt',List.find?_append,←he,List.find?_cons,List.find?_nil]
    cases isOn day e<;>rfl
   refine⟨by omega,vat ad had ?_⟩
   try simp only[go_sem,↓reduceIte]
   refine vload _ (hRR 1 _ rfl) ?_
   simp only[go_sem,↓reduceIte,Qa,e7,e1']
   refine⟨by omega,vat ad had ?_⟩
   try simp only[go_sem,↓reduceIte,Qb]
   refine zaf e.mv.cells rfl (fun j u hj=>?_) ?_
   ·show R4 (((ad.add (i*13)).add 4).add j) u
    rw[zgT _ (4+j) 4 j rfl]
    refine hRR (4+j) u ?_
    have hj5:j<5:=(List.getElem?_eq_some_iff.1 hj).1
    match j,hj5 with
    |0,_=>exact hj
    |1,_=>exact hj
    |2,_=>exact hj
    |3,_=>exact hj
    |4,_=>exact hj
   simp only[go_sem,↓reduceIte,Qa,Qb,Qd,Mv.cells]
   refine vcall (zhj (ed0 e) R4) ?_
   rintro R5 u hle5 ⟨cs,rfl,hd⟩
   obtain⟨da,dn,dc,rfl,_⟩:=hd.form
   have hdd:=zj8 e
   have hdm2:(madeE (ed0 e)).mv=mvOf e:=rfl
   simp only[go_sem,↓reduceIte,Qa,Qb,Qe,Qf,Ed.cells,De.ed,hdd,hdm2,e7,e6',e4',e5',e1']
   have hskip:(((es.take (i+1)).find? (isOn day))=((es.take i).find? (isOn day)))→qs=ms++(((es.take (i+1)).find? (isOn day)).map mvOf).toList:=fun h=>by rw[h];exact hqs
   refine⟨fun hday=>⟨fun hz=>?_,fun hz=>?_⟩,fun hday=>?_⟩
   ·have hz':qs.length≠0:=by omega
    have hne:qs≠[]:=fun e=>hz' (by rw[e];rfl)
    obtain⟨q0,lst,hq0⟩:∃q0 lst,qs=q0++[lst]:=by
     rcases List.eq_nil_or_concat qs with h|⟨q0,l,h⟩
     ·exact absurd h hne
     ·exact⟨q0,l,by rw[h,List.concat_eq_append]⟩
    have hq0l:qs.length=q0.length+1:=by rw[hq0];simp
    have hgb:gb 50 5 (rowM qs) = .row 50 5 (rowM qs):=gb_ne (fun e=>hz' (by have:=zby qs;rw[e] at this;simp at this;omega))
    have hidx:((qs.length:Int)-1).toNat=q0.length:=by omega
    have hcell:(rowM qs)[q0.length*5]?=some (.int .i64 lst.day):=by
     rw[hq0,zb5,List.getElem?_append_right (by rw[zby];omega),zby,Nat.sub_self]
     rfl
    refine⟨_,W.in64 (by omega),?_⟩
    rw[zaI hz',hgb]
    try simp only[go_sem,↓reduceIte,Qa]
    rw[hidx]
    refine⟨by omega,by omega,?_⟩
    try simp only[go_sem,↓reduceIte,Qa,Qb,Qc,Qd,Qe,Qf,reduceCtorEq]
    refine⟨_,hcell,?_⟩
    simp only[go_sem,↓reduceIte,Qa,Qb,Qe,Qf,e7,e6',e4',e5',e1']
    refine⟨fun hl2=>?_,fun hl2=>?_⟩
    ·have hnf:(es.take i).find? (isOn day)=none:=by
      cases hq:(es.take i).find? (isOn day) with
      |none=>rfl
      |some x =>
       exfalso
       have hx:=List.find?_some hq
       rw[hq] at hqs
       simp only[Option.map_some,Option.toList_some] at hqs
       have h1:lst=mvOf x:=by
        have h2:=hq0.symm.trans hqs
        have:=List.append_inj_right' h2 rfl
        simpa using this
       rw[h1,zjq] at hl2
       have:x.day%10=day:=by simpa[isOn] using hx
       omega
     refine⟨by rw[zby];omega,fun u hu=>?_,?_⟩
     ·unfold rowM at hu
      obtain⟨c,hc',hu'⟩:=List.mem_flatten.1 hu
      obtain⟨m,_,rfl⟩:=List.mem_map.1 hc'
      exact zfa m u hu'
     rw[show qs.length*5=(rowM qs).length from(zby qs).symm,List.take_length]
     refine vappO [] rfl rfl (by omega) ?_
     simp only[go_sem,↓reduceIte,Qa,Qb,Qc]
     refine vappO (rowM qs) rfl (by rw[zby]) (by omega) ?_
     simp only[go_sem,↓reduceIte,Qa,Qb,Qe,Qf,e7,e6',e4',e5',e1']
     refine⟨_,W.in64 (by omega),(i+1,qs++[mvOf e]),[0,1,7],?_⟩
     try simp only[go_sem,Qd]
     have hon:isOn day e=true:=by simp[isOn,hday]
     rw[hnf] at hqs hfs
     refine⟨by omega,⟨rfl,fun _=>by rw[zb5];rfl⟩,by decide,by omega,by omega,?_⟩
     rw[hfs,hon,hqs]
     simp
    ·have hsf:∃x,(es.take i).find? (isOn day)=some x:=by
      cases hq:(es.take i).find? (isOn day) with
      |some x=>exact⟨x,rfl⟩
      |none =>
       exfalso
       rw[hq] at hqs
       simp only[Option.map_none,Option.toList_none,List.append_nil] at hqs
       exact hl2 (hdm lst (by rw[←hqs,hq0];simp))
     obtain⟨x,hx⟩:=hsf
     refine⟨_,W.in64 (by omega),(i+1,qs),[],?_⟩
     try simp only[go_sem,Qd]
     exact⟨by omega,⟨rfl,(zaI hz').symm⟩,by decide,by omega,by omega,hskip (by rw[hfs,hx];rfl)⟩
   ·have hqe:qs=[]:=List.eq_nil_of_length_eq_zero (by omega)
    subst hqe
    try simp only[go_sem,Jd]
    refine vsrc [] (by simp) (by simp) (by simp) ?_
    try simp only[go_sem,↓reduceIte,Qa,Qb]
    have hnf:(es.take i).find? (isOn day)=none:=by
     cases hq:(es.take i).find? (isOn day) with
     |none=>rfl
     |some x=>rw[hq] at hqs;simp at hqs
    rw[hnf] at hqs
    have hms0:ms=[]:=by simpa using hqs.symm
    refine vappO [] rfl rfl (by omega) ?_
    simp only[go_sem,↓reduceIte,Qa,Qb,Qc]
    refine vappO [] rfl rfl (by omega) ?_
    simp only[go_sem,↓reduceIte,Qa,Qb,Qe,Qf,e7,e6',e4',e5',e1']
    refine⟨_,W.in64 (by omega),(i+1,[mvOf e]),[0,1,7],?_⟩
    try simp only[go_sem,Qd]
    have hon:isOn day e=true:=by simp[isOn,hday]
    refine⟨by omega,⟨rfl,fun _=>rfl⟩,by decide,by omega,by omega,?_⟩
    rw[hfs,hnf,hon,hms0]
    simp
   ·refine⟨_,W.in64 (by omega),(i+1,qs),[],?_⟩
    try simp only[go_sem,Qd]
    have hno:isOn day e=false:=by simp[isOn,hday]
    exact⟨by omega,⟨rfl,fun h=>gb_ne h⟩,by decide,by omega,by omega,hskip (by rw[hfs,hno];simp)⟩
  ·refine⟨_,W.in64 (by omega),(day+1,qs),[],?_⟩
   try simp only[go_sem,Qd]
   exact⟨by omega,⟨rfl,fun h=>gb_ne h⟩,by decide,by omega,by rw[←List.range_succ];exact hend (by omega),by omega⟩
  ·refine⟨_,W.in64 (by omega),(day+1,qs),[],?_⟩
   try simp only[go_sem,Qd]
   exact⟨by omega,⟨rfl,fun h=>gb_ne h⟩,by decide,by omega,by rw[←List.range_succ];exact hend (by omega),by omega⟩
 ·obtain rfl:day=10:=by omega
  by_cases h0:ms.length=0
  ·rw[h0]
   try simp only[go_sem,↓reduceIte,Qa,Qb,e4]
   refine⟨_,_,rfl,hrv.mono (RO.le_trans hle2 hle3),?_⟩
   have:zgU es=ms:=hms.symm
   rw[this,List.eq_nil_of_length_eq_zero h0]
   exact EncV.nil _ _ _
  ·rw[zaI h0]
   try simp only[go_sem]
   rw[gb_ne (fun e=>h0 (by have:=zby ms;rw[e] at this;simp at this;omega))]
   try simp only[go_sem,↓reduceIte,Qa,Qb,e4]
   intro b cap' R4 hle4 hrow hcap hfr
   refine⟨_,_,rfl,hrv.mono (RO.le_trans hle2 (RO.le_trans hle3 hle4)),?_⟩
   have:zgU es=ms:=hms.symm
   rw[this]
   exact RowIn.enc (fun _=>rfl) (by omega) hrow hcap (by omega)
/-! ### What is made is consistent -/
theorem zir(e:Ed):zak (madeE e)=true:=by
 have h1:=Int.emod_nonneg e.kind (show(5:Int)≠0 by omega)
 have h2:=Int.emod_lt_of_pos e.kind (show(0:Int)<5 by omega)
 have a1:=Int.emod_nonneg e.day (show(10:Int)≠0 by omega)
 have a2:=Int.emod_lt_of_pos e.day (show(0:Int)<10 by omega)
 have b1:=Int.emod_nonneg e.device (show(3:Int)≠0 by omega)
 have b2:=Int.emod_lt_of_pos e.device (show(0:Int)<3 by omega)
 have c1:=Int.emod_nonneg e.seq (show(8:Int)≠0 by omega)
 have c2:=Int.emod_lt_of_pos e.seq (show(0:Int)<8 by omega)
 have d1:=Int.emod_nonneg e.mv.toDay (show(10:Int)≠0 by omega)
 have d2:=Int.emod_lt_of_pos e.mv.toDay (show(0:Int)<10 by omega)
 have f1:=Int.emod_nonneg e.mv.minute (show(3:Int)≠0 by omega)
 have f2:=Int.emod_lt_of_pos e.mv.minute (show(0:Int)<3 by omega)
 have g1:=Int.emod_nonneg e.mv.length (show(3:Int)≠0 by omega)
 have g2:=Int.emod_lt_of_pos e.mv.length (show(0:Int)<3 by omega)
 have i1:=Int.emod_nonneg e.minute (show(3:Int)≠0 by omega)
 have i2:=Int.emod_lt_of_pos e.minute (show(0:Int)<3 by omega)
 have j1:=Int.emod_nonneg e.length (show(2:Int)≠0 by omega)
 have j2:=Int.emod_lt_of_pos e.length (show(0:Int)<2 by omega)
 have hz:∀b:Bool,(if b then zA else zB).size=1:=by decide
 have hz2:(((if e.minute%2=0 then zA else zB).size:Nat):Int)=1:=by split<;>rfl
 unfold zak zbg kindE madeE De.ed betw zaU betw restZ mvZ
 generalize e.kind%5=k at *
 rcases(by omega:k=0∨k=1∨k=2∨k=3∨k=4) with rfl|rfl|rfl|rfl|rfl
 ·cases hd:e.mv.drop<;>simp[zbO]<;>omega
 ·simp[zbO];omega
 ·simp[zbO,ruleN];omega
 ·simp[hz2];omega
 ·simp[zbO];omega
/-! ### Consistent lists -/
/-- The edits are valid, and those with the same number are the same. -/
def Cons(l:List De):Prop:=(∀d∈l,zak d=true)∧∀a∈l,∀b∈l,keyEq a b=true→a=b
theorem KeysD.eq{l:List De}(h:KeysD l){a b:De}(ha:a∈l)(hb:b∈l)(hk:keyEq a b=true):a=b:=by
 induction l with
 |nil=>simp at ha
 |cons x l ih =>
  have h':=List.pairwise_cons.1 h
  rcases List.mem_cons.1 ha with ea|ha
  ·rcases List.mem_cons.1 hb with eb|hb
   ·rw[ea,eb]
   ·rw[ea,h'.1 b hb] at hk;cases hk
  ·rcases List.mem_cons.1 hb with eb|hb
   ·rw[eb,zay,h'.1 a ha] at hk;cases hk
   ·exact ih h'.2 ha hb
theorem zem:∀(l out:List De),(∀d∈l,zak d=true)→(∀a∈out++l,∀b∈out++l,keyEq a b=true→a=b)→∃o,distD out l=some o∧∀d,d∈o↔d∈out∨d∈l
 |[],out,_,_=>⟨out,rfl,by simp⟩
 |x::l,out,hv,hc=>by
  rw[distD]
  cases hf:out.find? (keyEq x) with
  |some y =>
   have hy:=List.mem_of_find?_eq_some hf
   have hk:=List.find?_some hf
   have e:x=y:=hc x (by simp) y (by simp[hy]) (by simpa using hk)
   subst e
   rw[zjn (hv x (by simp)) hf,if_pos rfl]
   obtain⟨o,h1,h2⟩:=zem l out (fun d hd=>hv d (by simp[hd])) (fun a ha b hb=>hc a (by
    rcases List.mem_append.1 ha with h|h<;>simp[h]) b (by rcases List.mem_append.1 hb with h|h<;>simp[h]))
   refine⟨o,h1,fun d=>?_⟩
   rw[h2]
   constructor
   ·rintro(h|h)<;>simp[h]
   ·rintro(h|h)
    ·exact .inl h
    ·rcases List.mem_cons.1 h with rfl|h
     ·exact .inl hy
     ·exact .inr h
  |none =>
   rw[zjm (hv x (by simp)) hf]
   obtain⟨o,h1,h2⟩:=zem l (out++[x]) (fun d hd=>hv d (by simp[hd])) (fun a ha b hb=>hc a (by simpa using ha) b (by simpa using hb))
   exact⟨o,h1,fun d=>by rw[h2];simp[or_assoc]⟩
theorem zlx{l:List De}(h:Cons l)(hl:l.length≤4096):∃o,allD l = .ok o∧zae o∧∀d,d∈o↔d∈l:=by
 obtain⟨o,h1,h2⟩:=zem l [] h.1 (by simpa using h.2)
 refine⟨sortD o,?_,zc4 (zcz h1 List.Pairwise.nil),fun d=>?_⟩
 ·unfold allD
  rw[if_neg (by omega),h1]
  rfl
 ·rw[(zcy o).mem_iff,h2];simp
theorem zdB(o:List De):∀l:List De,(l.filter fun a => !(o.any (overD a))).length+(l.filterMap fun a=>(o.find? (overD a)).map (ovOf a)).length=l.length
 |[]=>rfl
 |x::l=>by
  have ih:=zdB o l
  rw[List.filter_cons,List.filterMap_cons]
  cases hf:o.find? (overD x) with
  |none =>
   have:o.any (overD x)=false:=List.any_eq_false.2 (List.find?_eq_none.1 hf)
   rw[this]
   simp
   omega
  |some b =>
   have:o.any (overD x)=true:=List.any_eq_true.2 ⟨b,List.mem_of_find?_eq_some hf,List.find?_some hf⟩
   rw[this]
   simp
   omega
/-! ### What is in force on a day: plain facts -/
def zaL(p:De→Bool)(l:List De):Option De:=(l.filter p).getLast?
theorem zcQ(p:De→Bool)(l:List De)(d:De):zaL p (l++[d])=if p d=true then some d else zaL p l:=by
 unfold zaL
 rw[List.filter_append]
 cases h:p d<;>simp[h]
def kOn(k day:Int)(d:De):Bool:=decide (d.kind=k)&&decide (d.day≤day)
def kind5(d:De):Bool:=decide (d.kind=5)
theorem zd1{α:Type}{P:List α→Prop}(h0:P [])(h1:∀l x,P l→P (l++[x]))(l:List α):P l:=by
 have:∀r:List α,P r.reverse:=fun r=>by
  induction r with
  |nil=>exact h0
  |cons x r ih=>rw[List.reverse_cons];exact h1 _ _ ih
 rw[←List.reverse_reverse l]
 exact this _
theorem znP(day:Int)(s:On)(l:List De)(d:De):onE day s (l++[d])=zbq day (onE day s l) d:=by
 unfold onE;rw[List.foldl_append];rfl
theorem zgq(day:Int)(s:On)(l:List De):onE day s l=⟨((zaL (kOn 3 day) l).map (·.rule)).getD s.rule,((zaL (kOn 2 day) l).map (·.minute)).getD s.minute,((zaL (kOn 2 day) l).map (·.length)).getD s.length,((zaL (kOn 4 day) l).map (·.zone)).getD s.zone⟩:=by
 refine zd1 (P:=fun l=>onE day s l=⟨((zaL (kOn 3 day) l).map (·.rule)).getD s.rule,((zaL (kOn 2 day) l).map (·.minute)).getD s.minute,((zaL (kOn 2 day) l).map (·.length)).getD s.length,((zaL (kOn 4 day) l).map (·.zone)).getD s.zone⟩) rfl (fun l d ih=>?_) l
 rw[znP,ih,zcQ,zcQ,zcQ]
 unfold zbq kOn
 by_cases h0:day<d.day
 ·have:¬ d.day≤day:=by omega
  simp[h0,this]
 ·have h0':d.day≤day:=by omega
  by_cases h2:d.kind=2
  ·simp[h0,h0',h2]
  ·by_cases h3:d.kind=3
   ·simp[h0,h0',h3]
   ·by_cases h4:d.kind=4<;>simp[h0,h0',h2,h3,h4]
theorem zly(l:List De)(d:De):endE (l++[d])=if d.kind=5 then d.day else endE l:=by
 unfold endE;rw[List.foldl_append];rfl
theorem zpQ(l:List De):endE l=((zaL kind5 l).map (·.day)).getD 1099511627777:=by
 refine zd1 (P:=fun l=>endE l=((zaL kind5 l).map (·.day)).getD 1099511627777) rfl (fun l d ih=>?_) l
 rw[zly,zcQ,ih]
 unfold kind5
 by_cases h:d.kind=5<;>simp[h]
theorem zaz{p:De→Bool}{l:List De}{c:De}(h:zaL p l=some c):c∈l∧p c=true:=by
 have:=List.mem_of_getLast? h
 exact List.mem_filter.1 this
theorem zfg{p:De→Bool}{l:List De}(h:zaL p l=none):∀d∈l,p d=false:=by
 unfold zaL at h
 rw[List.getLast?_eq_none_iff,List.filter_eq_nil_iff] at h
 intro d hd
 simpa using h d hd
theorem zd2{d:De}(h:zak d=true):0≤d.day∧d.day≤1099511627776:=by
 unfold zak zbg betw at h
 simp only[Bool.and_eq_true,decide_eq_true_eq] at h
 exact h.1.2
theorem zj9{d:De}(h:zak d=true)(hk:d.kind=4):d.day=0:=by
 unfold zak zbg at h
 simp only[Bool.and_eq_true] at h
 have h4:=h.2
 unfold kindE at h4
 have hk':(d.ed none d.rule.length 0).kind=4:=hk
 rw[if_neg (by omega),if_neg (by omega),if_neg (by omega),if_pos hk'] at h4
 simp only[Bool.and_eq_true,decide_eq_true_eq] at h4
 exact h4.1.1
theorem zhu{d:De}(h:zak d=true)(hk:d.kind=2):1≤d.length:=by
 unfold zak zbg at h
 simp only[Bool.and_eq_true] at h
 have h4:=h.2
 unfold kindE betw at h4
 have hk':(d.ed none d.rule.length 0).kind=2:=hk
 rw[if_neg (by omega),if_pos hk'] at h4
 simp only[Bool.and_eq_true,decide_eq_true_eq] at h4
 exact h4.1.2.1
section
variable {o:List De} (hs:zae o) (hv:∀d∈o,zak d=true)
include hs
include hv
omit hs in
omit hs hv in
theorem zhv:endE (forceD o)=1099511627777∨∃w∈forceD o,w.kind=5∧w.day=endE (forceD o):=by
 rw[zpQ]
 cases h:zaL kind5 (forceD o) with
 |none=>exact .inl rfl
 |some w =>
  obtain⟨h1,h2⟩:=zaz h
  exact .inr ⟨w,h1,by simpa[kind5] using h2,rfl⟩
omit hv in
omit hv in
end
/-! ### The parts hold the days: plain facts -/
/-- The part that holds a day. -/
def holdP(ps:List (Int×Ti))(x:Int):Option (Int×Ti):=(ps.filter fun p=>decide (p.1≤x)).getLast?
def za4(l:List Int)(x:Int):Option Int:=(l.filter fun d=>decide (d≤x)).getLast?
theorem zdp(ps:List (Int×Ti))(p:Int×Ti)(x:Int):holdP (ps++[p]) x=if p.1≤x then some p else holdP ps x:=by
 unfold holdP
 rw[List.filter_append]
 by_cases h:p.1≤x<;>simp[h]
theorem zlz{ps:List (Int×Ti)}{x:Int}(h:∀p∈ps,p.1≤x):holdP ps x=ps.getLast?:=by
 unfold holdP
 rw[List.filter_eq_self.2 fun p hp=>by simpa using h p hp]
theorem zhw{l:List Int}{x:Int}(h:∀d∈l,x<d):za4 l x=none:=by
 unfold za4
 rw[List.getLast?_eq_none_iff,List.filter_eq_nil_iff]
 intro d hd
 have:=h d hd
 simp;omega
theorem zdJ{d:Int}{r:List Int}(h:Inc (d::r))(x:Int):(x<d∧za4 (d::r) x=none∧za4 r x=none)∨(d≤x∧((za4 r x=none∧za4 (d::r) x=some d)∨∃d2,za4 r x=some d2∧za4 (d::r) x=some d2)):=by
 have h':=List.pairwise_cons.1 h
 rcases Int.lt_or_le x d with hx|hx
 ·refine .inl ⟨hx,zhw fun y hy=>?_,zhw fun y hy=>?_⟩
  ·rcases List.mem_cons.1 hy with rfl|hy
   ·exact hx
   ·have:=h'.1 y hy;omega
  ·have:=h'.1 y hy;omega
 ·refine .inr ⟨hx,?_⟩
  have hc:za4 (d::r) x=some ((za4 r x).getD d):=by
   unfold za4
   rw[List.filter_cons,if_pos (by simpa using hx),List.getLast?_cons]
  cases hr:za4 r x with
  |none=>rw[hr] at hc;exact .inl ⟨rfl,hc⟩
  |some d2=>rw[hr] at hc;exact .inr ⟨d2,rfl,hc⟩
theorem zen{l:List Int}{x d:Int}(h:za4 l x=some d):d∈l∧d≤x:=by
 have:=List.mem_of_getLast? h
 rw[List.mem_filter] at this
 simpa using this
theorem zis(e:Int)(f:Int→Ti)(H:∀a b:Int,0≤a→0≤b→zb6 (f a) (f b)=true→f a=f b):∀(l:List Int) (out:List (Int×Ti)),Inc l→(∀d∈l,0≤d)→(∀p∈out,∀d∈l,p.1<d)→(∀p,out.getLast?=some p→∃d':Int,0≤d'∧p.2=f d') →
  ∀x,(za4 l x=none→holdP (partsGo e f l out) x=holdP out x)∧(∀d,za4 l x=some d→∃d',holdP (partsGo e f l out) x=some (d',if e≤d then Ti.zero else f d))
 |[],out,_,_,_,_,x=>⟨fun _=>rfl,fun d h=>by simp[za4] at h⟩
 |d::r,out,hi,hnn,ho,hl,x=>by
  have h':=List.pairwise_cons.1 hi
  have hor:∀p∈out,∀d'∈r,p.1<d':=fun p hp d' hd'=>ho p hp d' (by simp[hd'])
  have hod:∀p∈out,p.1<d:=fun p hp=>ho p hp d (by simp)
  by_cases he:e≤d
  ·rw[zb7 he]
   refine⟨fun hn=>?_,fun d1 hd1=>?_⟩
   ·rcases zdJ hi x with⟨hx,_,_⟩|⟨hx,⟨_,h⟩|⟨d2,_,h⟩⟩
    ·rw[zdp,if_neg (by simp;omega)]
    ·rw[hn] at h;cases h
    ·rw[hn] at h;cases h
   ·obtain⟨hm,hx⟩:=zen hd1
    have hdd:d≤d1:=by
     rcases List.mem_cons.1 hm with e'|hm
     ·omega
     ·have:=h'.1 d1 hm;omega
    rw[zdp,if_pos (by simp;omega)]
    exact⟨d,by rw[if_pos (by omega)]⟩
  ·have hnew:∀x,(za4 (d::r) x=none→holdP (partsGo e f r (out++[(d,f d)])) x=holdP out x)∧(∀d1,za4 (d::r) x=some d1→∃d',holdP (partsGo e f r (out++[(d,f d)])) x=some (d',if e≤d1 then Ti.zero else f d1)):=fun x=>by
    obtain⟨i1,i2⟩:=zis e f H r (out++[(d,f d)]) h'.2 (fun y hy=>hnn y (by simp[hy])) (fun p hp d' hd'=>by
     rcases List.mem_append.1 hp with hp|hp
     ·exact hor p hp d' hd'
     ·simp only[List.mem_cons,List.not_mem_nil,or_false] at hp;subst hp;exact h'.1 d' hd') (fun p hp=>by
     rw[List.getLast?_concat] at hp;cases hp;exact⟨d,hnn d (by simp),rfl⟩) x
    rcases zdJ hi x with⟨hx,h1,h2⟩|⟨hx,⟨h1,h2⟩|⟨d2,h1,h2⟩⟩
    ·refine⟨fun _=>?_,fun d1 h=>by rw[h1] at h;cases h⟩
     rw[i1 h2,zdp,if_neg (by simp;omega)]
    ·refine⟨fun h=>(by rw[h2] at h;cases h),fun d1 h=>?_⟩
     rw[h2] at h;cases h
     rw[i1 h1,zdp,if_pos (by simpa using hx),if_neg he]
     exact⟨_,rfl⟩
    ·refine⟨fun h=>(by rw[h2] at h;cases h),fun d1 h=>?_⟩
     rw[h2] at h;cases h
     exact i2 _ h1
   rcases List.eq_nil_or_concat out with hnil|⟨out0,y,hc⟩
   ·subst hnil
    rw[zbz he]
    exact hnew x
   ·rw[List.concat_eq_append] at hc
    cases hsame:zb6 (f d) y.2 with
    |false =>
     rw[hc,zb8 he hsame,←hc]
     exact hnew x
    |true =>
     rw[hc,zcm he hsame,←hc]
     obtain⟨i1,i2⟩:=zis e f H r out h'.2 (fun y hy=>hnn y (by simp[hy])) hor hl x
     have hlast:out.getLast?=some y:=by rw[hc,List.getLast?_concat]
     obtain⟨d',hd0,hd'⟩:=hl y hlast
     rcases zdJ hi x with⟨hx,h1,h2⟩|⟨hx,⟨h1,h2⟩|⟨d2,h1,h2⟩⟩
     ·exact⟨fun _=>i1 h2,fun d1 h=>by rw[h1] at h;cases h⟩
     ·refine⟨fun h=>(by rw[h2] at h;cases h),fun d1 h=>?_⟩
      rw[h2] at h;cases h
      rw[i1 h1,zlz (fun p hp=>by have:=hod p hp;omega),hlast,if_neg he]
      refine⟨y.1,?_⟩
      rw[hd'] at hsame
      rw[H _ _ (hnn d (by simp)) hd0 hsame,←hd']
     ·refine⟨fun h=>(by rw[h2] at h;cases h),fun d1 h=>?_⟩
      rw[h2] at h;cases h
      exact i2 _ h1
def AdjNe(ps:List (Int×Ti)):Prop:=∀i (h:i+1<ps.length),(ps[i]).2≠(ps[i+1]).2
theorem AdjNe.snoc{ps:List (Int×Ti)}{q:Int×Ti}(h:AdjNe ps)(hq:∀y,ps.getLast?=some y→y.2≠q.2):AdjNe (ps++[q]):=by
 intro i hi
 rw[List.length_append,List.length_cons,List.length_nil] at hi
 by_cases hl:i+1<ps.length
 ·rw[List.getElem_append_left (by omega),List.getElem_append_left hl]
  exact h i hl
 ·have hi':i+1=ps.length:=by omega
  rw[List.getElem_append_left (by omega),List.getElem_append_right (by omega)]
  have:(ps++[q])[i+1]?=some q:=by rw[hi',List.getElem?_concat_length]
  have hz:i+1-ps.length=0:=by omega
  simp only[hz,List.getElem_cons_zero]
  refine hq _ ?_
  rw[List.getLast?_eq_getElem?,show ps.length-1=i by omega,List.getElem?_eq_getElem (by omega)]
theorem zit(x:Ti):zb6 x x=true:=by simp[zb6]
theorem zlA(e:Int)(f:Int→Ti)(hf:∀d,f d≠Ti.zero):∀(l:List Int) (out:List (Int×Ti)),AdjNe out→(∀p∈out,p.2≠Ti.zero)→AdjNe (partsGo e f l out)
 |[],out,h,_=>h
 |d::r,out,h,hz=>by
  by_cases he:e≤d
  ·rw[zb7 he]
   exact h.snoc fun y hy=>hz y (List.mem_of_getLast? hy)
  ·have hnew:(∀y,out.getLast?=some y→y.2≠f d)→AdjNe (partsGo e f r (out++[(d,f d)])):=fun hn=>zlA e f hf r _ (h.snoc hn) fun p hp=>by
    rcases List.mem_append.1 hp with hp|hp
    ·exact hz p hp
    ·simp only[List.mem_cons,List.not_mem_nil,or_false] at hp;subst hp;exact hf d
   rcases List.eq_nil_or_concat out with hnil|⟨out0,y,hc⟩
   ·subst hnil
    rw[zbz he]
    exact hnew (by simp)
   ·rw[List.concat_eq_append] at hc
    cases hsame:zb6 (f d) y.2 with
    |false =>
     have:=hnew (fun y' hy'=>by
      rw[hc,List.getLast?_concat] at hy'
      cases hy'
      intro e'
      rw[e',zit] at hsame;cases hsame)
     rw[hc,zb8 he hsame,←hc]
     exact this
    |true =>
     rw[hc,zcm he hsame,←hc]
     exact zlA e f hf r out h hz
theorem zjr(e:Int)(f:Int→Ti):∀(l:List Int) (out:List (Int×Ti)),Inc l→e∈l→∃q,partsGo e f l out=q++[(e,Ti.zero)]
 |[],out,_,h=>by simp at h
 |d::r,out,hi,h=>by
  have h':=List.pairwise_cons.1 hi
  by_cases he:e≤d
  ·have:d=e:=by
    rcases List.mem_cons.1 h with e'|h
    ·exact e'.symm
    ·have:=h'.1 e h;omega
   subst this
   exact⟨out,zb7 he⟩
  ·have hr:e∈r:=by
    rcases List.mem_cons.1 h with e'|h
    ·omega
    ·exact h
   rcases List.eq_nil_or_concat out with hnil|⟨out0,y,hc⟩
   ·subst hnil
    rw[zbz he]
    exact zjr e f r _ h'.2 hr
   ·rw[List.concat_eq_append] at hc
    cases hsame:zb6 (f d) y.2 with
    |false =>
     rw[hc,zb8 he hsame]
     exact zjr e f r _ h'.2 hr
    |true =>
     rw[hc,zcm he hsame]
     exact zjr e f r _ h'.2 hr
theorem znQ{ps:List (Int×Ti)}{i:Nat}(hi:i<ps.length){x:Int}(hinc:Inc (ps.map (·.1)))(h1:(ps[i]).1≤x)(h2:∀j (hj:j<ps.length),i<j→x<(ps[j]).1):holdP ps x=some ps[i]:=by
 have e:ps=ps.take (i+1)++ps.drop (i+1):=(List.take_append_drop _ _).symm
 have f2:(ps.drop (i+1)).filter (fun p=>decide (p.1≤x))=[]:=by
  rw[List.filter_eq_nil_iff]
  intro a ha
  obtain⟨j,hj,rfl⟩:=List.mem_iff_getElem.1 ha
  rw[List.getElem_drop]
  rw[List.length_drop] at hj
  have:=h2 (i+1+j) (by omega) (by omega)
  simp;omega
 unfold holdP
 conv=>lhs;rw[e]
 rw[List.filter_append,f2,List.append_nil,List.take_succ_eq_append_getElem hi,List.filter_append]
 simp[h1]
/-! ### Merge -/
theorem zlB(s:Se)(rl:List Nd){o:List De}(hv:∀d∈o,zak d=true){a b:Int}(ha:0≤a)(hb:0≤b)(h:zb6 (tiOn s rl o a) (tiOn s rl o b)=true):tiOn s rl o a=tiOn s rl o b:=by
 have hz:∀x:Int,0≤x→zaL (kOn 4 x) o=zaL (fun d=>decide (d.kind=4)) o:=fun x hx=>by
  unfold zaL
  congr 1
  refine List.filter_congr fun d hd=>?_
  unfold kOn
  by_cases hk:d.kind=4
  ·have:=zj9 (hv d hd) hk
   simp[hk,this,hx]
  ·simp[hk]
 have h1:∀x:Int,0≤x→(tiOn s rl o x).zone=((zaL (fun d=>decide (d.kind=4)) o).map (·.zone)).getD s.zone:=fun x hx=>by
  show(onE x (s.on rl) o).zone=_
  rw[zgq,hz x hx]
  rfl
 unfold zb6 at h
 simp only[Bool.and_eq_true,decide_eq_true_eq] at h
 have hz2:=(h1 a ha).trans (h1 b hb).symm
 have e1:∀x,(tiOn s rl o x).gap=s.gap:=fun _=>rfl
 have e2:∀x,(tiOn s rl o x).fold=s.fold:=fun _=>rfl
 have k1:=(e1 a).trans (e1 b).symm
 have k2:=(e2 a).trans (e2 b).symm
 obtain⟨⟨h3,h4⟩,h5⟩:=h
 generalize tiOn s rl o a=p at *
 generalize tiOn s rl o b=q at *
 obtain⟨_,_,_,_,_,_⟩:=p
 obtain⟨_,_,_,_,_,_⟩:=q
 simp only at *
 subst h3 h4 h5 hz2 k1 k2
 rfl
theorem ziu(s:Se)(rl:List Nd){o:List De}(hv:∀d∈o,zak d=true)(hl:1≤s.length)(x:Int):1≤(tiOn s rl o x).length:=by
 show 1≤(onE x (s.on rl) o).length
 rw[zgq]
 cases h:zaL (kOn 2 x) o with
 |none=>exact hl
 |some c =>
  obtain⟨h1,h2⟩:=zaz h
  exact zhu (hv c h1) (by simp[kOn] at h2;exact h2.1)
theorem zlC(s:Se)(rl:List Nd)(o:List De){x d:Int}(h:za4 (rising (0::o.map (·.day))) x=some d):tiOn s rl o x=tiOn s rl o d:=by
 have hd:=(zen h).2
 have key:∀q∈o,(x<q.day↔d<q.day):=fun q hq=>by
  refine⟨fun hx=>by omega,fun hx=>?_⟩
  rcases Int.lt_or_le x q.day with h1|h1
  ·exact h1
  ·exfalso
   have hm:q.day∈(rising (0::o.map (·.day))).filter fun d=>decide (d≤x):=List.mem_filter.2 ⟨by rw[zaJ];exact List.mem_cons_of_mem _ (List.mem_map_of_mem hq),by simpa using h1⟩
   unfold za4 at h
   obtain⟨l0,hl⟩:=List.getLast?_eq_some_iff.1 h
   have hi:Inc ((rising (0::o.map (·.day))).filter fun d=>decide (d≤x)):=List.Pairwise.sublist List.filter_sublist (zba _)
   rw[hl] at hi hm
   rcases List.mem_append.1 hm with h2|h2
   ·have:=(List.pairwise_append.1 hi).2.2 _ h2 d (by simp);omega
   ·simp at h2;omega
 have hon:∀(l:List De) (u:On),(∀q∈l,q∈o)→onE x u l=onE d u l:=by
  intro l
  induction l with
  |nil=>intro u _;rfl
  |cons q l ih =>
   intro u hq
   have hs:zbq x u q=zbq d u q:=by
    unfold zbq
    have:=key q (hq q (by simp))
    by_cases h1:x<q.day
    ·rw[if_pos h1,if_pos (this.1 h1)]
    ·rw[if_neg h1,if_neg (fun h2=>h1 (this.2 h2))]
   show onE x (zbq x u q) l=onE d (zbq d u q) l
   rw[hs]
   exact ih _ fun q' hq'=>hq q' (by simp[hq'])
 unfold tiOn
 rw[hon o _ fun _ h=>h]
theorem zka(s:Se)(rl:List Nd){o:List De}(hv:∀d∈o,zak d=true)(e:Int){x:Int}(hx:0≤x)(he:e∈o.map (·.day)∨x<e):∃d',holdP (zaQ s rl o e) x=some (d',if e≤x then Ti.zero else tiOn s rl o x):=by
 have hnn:∀d∈rising (0::o.map (·.day)),0≤d:=fun d hd=>by
  rw[zaJ] at hd
  rcases List.mem_cons.1 hd with rfl|hd
  ·exact Int.le_refl _
  ·obtain⟨q,hq,rfl⟩:=List.mem_map.1 hd
   exact(zd2 (hv q hq)).1
 have h:=(zis e (tiOn s rl o) (fun a b ha hb h=>zlB s rl hv ha hb h) (rising (0::o.map (·.day))) [] (zba _) hnn (by simp) (by simp) x).2
 have h0:(0:Int)∈rising (0::o.map (·.day)):=by rw[zaJ];simp
 cases hl:za4 (rising (0::o.map (·.day))) x with
 |none =>
  unfold za4 at hl
  rw[List.getLast?_eq_none_iff,List.filter_eq_nil_iff] at hl
  exact absurd hx (by simpa using hl 0 h0)
 |some d =>
  obtain⟨d',hd'⟩:=h d hl
  obtain⟨hm,hdx⟩:=zen hl
  refine⟨d',?_⟩
  unfold zaQ
  rw[hd',zlC s rl o hl]
  by_cases hex:e≤x
  ·have hed:e≤d:=by
    rcases he with he|he
    ·rcases Int.lt_or_le d e with h1|h1
     ·exfalso
      have hm2:e∈(rising (0::o.map (·.day))).filter fun d=>decide (d≤x):=List.mem_filter.2 ⟨by rw[zaJ];simp only[List.mem_cons];exact .inr he,by simpa using hex⟩
      unfold za4 at hl
      obtain⟨l0,hl0⟩:=List.getLast?_eq_some_iff.1 hl
      have hi:Inc ((rising (0::o.map (·.day))).filter fun d=>decide (d≤x)):=List.Pairwise.sublist List.filter_sublist (zba _)
      rw[hl0] at hi hm2
      rcases List.mem_append.1 hm2 with h2|h2
      ·have:=(List.pairwise_append.1 hi).2.2 _ h2 d (by simp);omega
      ·simp at h2;omega
     ·exact h1
    ·omega
   rw[if_pos hex,if_pos hed]
  ·rw[if_neg hex,if_neg (by omega)]
theorem zkb(s:Se)(rl:List Nd){o:List De}(hs:zae o)(hv:∀d∈o,zak d=true){x:Int}(hx:0≤x∧x≤1099511627776):∃d',holdP (zaQ s rl (forceD o) (endE (forceD o))) x=some (d',if endE (forceD o)≤x then Ti.zero else tiOn s rl (forceD o) x):=by
 refine zka s rl (fun d hd=>hv d (zaS.1 hd).1) _ hx.1 ?_
 rcases zhv (o:=o) with h|⟨w,hw,_,hwd⟩
 ·exact .inr (by omega)
 ·exact .inl (List.mem_map.2 ⟨w,hw,hwd⟩)
theorem zdq(s:Se)(rl:List Nd)(ms:List Mv)(o:List De):(mergeP s rl ms o).length=(zaQ s rl (forceD o) (endE (forceD o))).length:=by
 unfold mergeP zhq;rw[List.length_mapIdx]
theorem zlD{s:Se}{rl:List Nd}{ms:List Mv}{o:List De}{i:Nat}{pa:Pa}(h:(mergeP s rl ms o)[i]?=some pa):∃p,(zaQ s rl (forceD o) (endE (forceD o)))[i]?=some p ∧
  pa=⟨p.1,p.2,(sortM (movesD ms (forceD o) (endE (forceD o)))).filter fun m=>decide (zbQ ((zaQ s rl (forceD o) (endE (forceD o))).map (·.1)) m.day=i)⟩:=by
 unfold mergeP zhq at h
 rw[List.getElem?_mapIdx] at h
 obtain⟨p,hp,rfl⟩:=Option.map_eq_some_iff.1 h
 exact⟨p,hp,rfl⟩
theorem cutT{P:PG}{c:VCode}{s:St}{kn:St→Prop}{ke:Nat→St→Prop}{kr:St→Prop}{tn:Tok kn}{te:Tok ke}{tr:Tok kr}(Q:St→Prop)(h:CodeT P c s Q ke kr .mk .mk .mk)(hk:∀s',Q s'→kn s'):CodeT P c s kn ke kr tn te tr :=
 zaP c hk (fun _ _ h=>h) (fun _ h=>h) h
theorem cutR{P:PG}{a b:VCode}{s:St}{kn:St→Prop}{ke:Nat→St→Prop}{kr:St→Prop}{tn:Tok kn}{te:Tok ke}{tr:Tok kr}(s1:St)(h:CodeT P a s (fun s'=>s'=s1) ke kr .mk .mk .mk)(hk:CodeT P b s1 kn ke kr .mk .mk .mk):CodeT P (.seq a b) s kn ke kr tn te tr :=
 zaP a (fun s' e=>by subst e;exact hk) (fun _ _ h=>h) (fun _ h=>h) h
theorem cutL{P:PG}{b:VCode}{s:St}{kn kn1:St→Prop}{ke0:Nat→St→Prop}{kr:St→Prop}{n:Nat}{t1:Tok kn}{t2:Tok (fun(i:Nat) (s':St)=>if i=n then kn1 s' else ke0 i s')}{t3:Tok kr}{t4:Tok b}(Q:St→Prop)
  (h:VLoop P b s kn (fun i s'=>if i=n then Q s' else ke0 i s') kr .mk .mk .mk .mk) (hk:∀s',Q s'→kn1 s'):VLoop P b s kn (fun i s'=>if i=n then kn1 s' else ke0 i s') kr t1 t2 t3 t4 :=
 zaP (.loop b) (fun _ h=>h) (fun i s' h=>by
  revert h
  by_cases e:i=n
  ·rw[if_pos e,if_pos e];exact hk s'
  ·rw[if_neg e,if_neg e];exact id) (fun _ h=>h) h
theorem ziv(ρ:List Nat)(vals:List (Nat×SV))(blks:List Blk):za3 1 ρ vals blks=(zeO vals&&(vals.all fun p=>p.2.ok blks.length)&&blks.all (scB blks.length)&&rnInj ρ blks.length&&decide (1≤blks.length)&&(rn ρ 0==0)):=by
 simp[za3,List.range_succ]
theorem zgV(l x:List Blk):setG l [] x=l++x:=by cases x<;>rfl
/-! ### What the law asks of Merge's parts: plain facts -/
theorem zlE(l:List Int)(x:Int):∀n,1≤n→(hn:n≤l.length)→(∀h:0<l.length,l[0]≤x)→∃i,∃hi:i<n,l[i]≤x∧∀j,i<j→(hj:j<n)→x<l[j]
 |0,h,_,_=>by omega
 |1,_,hn,h0=>⟨0,by omega,h0 (by omega),fun j h1 h2=>by omega⟩
 |n+2,_,hn,h0=>by
  by_cases hx:l[n+1]≤x
  ·exact⟨n+1,by omega,hx,fun j h1 h2=>by omega⟩
  ·obtain⟨i,hi,h1,h2⟩:=zlE l x (n+1) (by omega) (by omega) h0
   refine⟨i,by omega,h1,fun j hj hjn=>?_⟩
   by_cases hjn':j=n+1
   ·subst hjn';omega
   ·exact h2 j hj (by omega)
theorem zfh{l:List Int}(h:Inc l)(hr:∃r,l=0::r){x:Int}(hx:0≤x):∃hi:zbQ l x<l.length,l[zbQ l x]≤x∧∀j,zbQ l x<j→(hj:j<l.length)→x<l[j]:=by
 obtain⟨r,hr⟩:=hr
 obtain⟨i,hi,h1,h2⟩:=zlE l x l.length (by rw[hr];simp) (Nat.le_refl _) (fun h=>by subst hr;simpa using hx)
 have:=zfd h hi x h1 fun j hj hij=>h2 j hij hj
 simp only[this]
 exact⟨hi,h1,h2⟩
theorem zd3{s:Se}{rl:List Nd}{ms:List Mv}{o:List De}{i:Nat}(h:i<(mergeP s rl ms o).length):∃h':i<(zaQ s rl (forceD o) (endE (forceD o))).length,
  (mergeP s rl ms o)[i]=⟨((zaQ s rl (forceD o) (endE (forceD o)))[i]).1,((zaQ s rl (forceD o) (endE (forceD o)))[i]).2,(sortM (movesD ms (forceD o) (endE (forceD o)))).filter fun m=>decide (zbQ ((zaQ s rl (forceD o) (endE (forceD o))).map (·.1)) m.day=i)⟩:=by
 have h':i<(zaQ s rl (forceD o) (endE (forceD o))).length:=by rw[zdq] at h;exact h
 obtain⟨p,hp,he⟩:=zlD (List.getElem?_eq_getElem h)
 rw[List.getElem?_eq_getElem h'] at hp
 cases hp
 exact⟨h',he⟩
theorem Inc.lt{l:List Int}(h:Inc l){i j:Nat}(hij:i<j)(hj:j<l.length):l[i]<l[j]:=List.pairwise_iff_getElem.1 h i j (by omega) hj hij
def zpj(pp:List Pa)(x e:Int)(t:Ti):Prop :=
  (∀i j (hj:j<pp.length) (hij:i<j),(pp[i]).day<(pp[j]).day)∧(∃h:0<pp.length,(pp[0]).day=0)∧(∀i (h:i+1<pp.length),(pp[i]).ti≠(pp[i+1]).ti) ∧
  (∀i (h:i<pp.length),(∀m∈(pp[i]).moves,(pp[i]).day≤m.day∧∀h:i+1<pp.length,m.day<(pp[i+1]).day)∧(pp[i]).moves.Pairwise fun a b=>a.day<b.day) ∧
  ∃a,∃h:a<pp.length,(pp[a]).day≤x∧(∀j,a<j→(hj:j<pp.length)→x<(pp[j]).day)∧(pp[a]).ti=(if e≤x then Ti.zero else t)∧(e≤x→a+1=pp.length)
theorem zdK(s:Se)(rl:List Nd)(ms:List Mv){o:List De}(hs:zae o)(hv:∀d∈o,zak d=true)(hm:zaR none ms=true)(hl:1≤s.length){x:Int}(hx:0≤x∧x≤1099511627776) :
  zpj (mergeP s rl ms o) x (endE (forceD o)) (tiOn s rl (forceD o) x):=by
 have hvf:∀d∈forceD o,zak d=true:=fun d hd=>hv d (zaS.1 hd).1
 have hdays:=zdI s rl (forceD o) (endE (forceD o)) (fun d hd=>(zd2 (hvf d hd)).1)
 have hadj:AdjNe (zaQ s rl (forceD o) (endE (forceD o))):=zlA _ _ (fun d e=>by
  have:=ziu s rl hvf hl d
  rw[e] at this;simp[Ti.zero] at this) _ _ (fun i hi=>by simp at hi) (by simp)
 have hend:∀y∈forceD o,y.day=endE (forceD o)→∃q,zaQ s rl (forceD o) (endE (forceD o))=q++[(endE (forceD o),Ti.zero)]:=fun y hy he=>zjr _ _ _ _ (zba _) (by rw[zaJ,←he];exact List.mem_cons_of_mem _ (List.mem_map_of_mem hy))
 have hhold:=zkb s rl hs hv hx
 have hmday:=zgp (e:=endE (forceD o)) (zcP hm) hvf
 have hmne:=zfe (e:=endE (forceD o)) hs hv hm
 have hlen:=zdq s rl ms o
 have hget:=fun i h=>zd3 (s:=s) (rl:=rl) (ms:=ms) (o:=o) (i:=i) h
 have hec:=zhv (o:=o)
 generalize mergeP s rl ms o=pp at *
 generalize zaQ s rl (forceD o) (endE (forceD o))=pd at *
 unfold zpj
 obtain⟨hinc,hzero,_⟩:=hdays
 have hday:∀i (h:i<pp.length) (h':i<(pd.map (·.1)).length),(pp[i]).day=(pd.map (·.1))[i]:=fun i h h'=>by
  obtain⟨h1,e⟩:=hget i h
  rw[e,List.getElem_map]
 have hl2:(pd.map (·.1)).length=pp.length:=by rw[hlen];simp
 refine⟨fun i j hj hij=>?_,?_,fun i h=>?_,fun i h=>⟨fun m hm'=>?_,?_⟩,?_⟩
 ·rw[hday i (by omega) (by omega),hday j hj (by omega)]
  exact hinc.lt hij (by omega)
 ·obtain⟨r,hr⟩:=hzero
  have h0:0<pp.length:=by rw[←hl2,hr];simp
  refine⟨h0,?_⟩
  rw[hday 0 h0 (by omega)]
  simp only[hr,List.getElem_cons_zero]
 ·obtain⟨h1,e1⟩:=hget i (by omega)
  obtain⟨h2,e2⟩:=hget (i+1) h
  rw[e1,e2]
  exact hadj i (by omega)
 ·obtain⟨h1,e⟩:=hget i h
  rw[e] at hm'
  obtain⟨hm1,hm2⟩:=List.mem_filter.1 hm'
  have hm0:=hmday m ((zbI _).mem_iff.1 hm1)
  have hpa:zbQ (pd.map (·.1)) m.day=i:=by simpa using hm2
  obtain⟨hi,k1,k2⟩:=zfh hinc hzero hm0
  simp only[hpa] at hi k1 k2
  refine⟨by rw[hday i h hi];exact k1,fun h2=>?_⟩
  rw[hday (i+1) h2 (by omega)]
  exact k2 (i+1) (by omega) (by omega)
 ·obtain⟨h1,e⟩:=hget i h
  rw[e]
  refine List.Pairwise.sublist List.filter_sublist ?_
  have h1:=zjp (movesD ms (forceD o) (endE (forceD o)))
  have h2:=(zbI (movesD ms (forceD o) (endE (forceD o)))).symm.pairwise hmne (fun h=>fun e=>h e.symm)
  exact h1.imp₂ (fun a b=>fun(h1:a.day≤b.day) (h2:a.day≠b.day)=>by omega) h2
 ·obtain⟨hi,k1,k2⟩:=zfh hinc hzero hx.1
  generalize zbQ (pd.map (·.1)) x=a at *
  have ha:a<pd.length:=by simpa using hi
  refine⟨a,by omega,by rw[hday a (by omega) hi];exact k1,fun j hj hjl=>by rw[hday j hjl (by omega)];exact k2 j hj (by omega),?_,fun he=>?_⟩
  ·obtain⟨d',hd'⟩:=hhold
   rw[znQ ha hinc (by simpa using k1) (fun j hj hij=>by have:=k2 j hij (by simpa using hj);simpa using this)] at hd'
   obtain⟨h1,e⟩:=hget a (by omega)
   rw[e]
   simp only[Option.some.injEq] at hd'
   show(pd[a]).2=_
   rw[hd']
  ·rcases hec with h|⟨w,hw,_,hwd⟩
   ·omega
   ·obtain⟨q,hq⟩:=hend w hw hwd
    rw[hlen]
    rcases Nat.lt_or_ge (a+1) pd.length with hlt|hge
    ·exfalso
     have:=k2 (pd.length-1) (by omega) (by simp;omega)
     rw[List.getElem_map] at this
     have hlast:pd[pd.length-1]'(by omega)=(endE (forceD o),Ti.zero):=by
      have:pd.getLast?=some (endE (forceD o),Ti.zero):=by rw[hq,List.getLast?_concat]
      rw[List.getLast?_eq_getElem?,List.getElem?_eq_getElem (by omega)] at this
      exact Option.some.inj this
     rw[hlast] at this
     simp only at this
     omega
    ·omega
structure Tr where
 pos:Int
 off:Int
 deriving DecidableEq
def Tr.cells(t:Tr):List Value:=[.int .i64 t.pos,.int .i64 t.off]
def Asc(l:List Tr):Prop:=l.Pairwise fun a b=>a.pos<b.pos
def zc2(l:List Tr)(t:Int):Option Tr:=(l.filter fun x=>decide (x.pos≤t)).getLast?
theorem zc8{l:List Tr}{t:Int}(k:Nat)(hk:k≤l.length)(h1:∀a (h:a<l.length),a<k→l[a].pos≤t)(h2:∀a (h:a<l.length),k≤a→t<l[a].pos):zc2 l t=(l.take k).getLast?:=by
 unfold zc2
 congr 1
 conv=>lhs;rw[←List.take_append_drop k l]
 rw[List.filter_append]
 have e1:(l.take k).filter (fun x=>decide (x.pos≤t))=l.take k:=List.filter_eq_self.2 fun x hx=>by
  obtain⟨i,hi,rfl⟩:=List.mem_iff_getElem.1 hx
  rw[List.length_take] at hi
  rw[List.getElem_take]
  exact decide_eq_true (h1 i (by omega) (by omega))
 have e2:(l.drop k).filter (fun x=>decide (x.pos≤t))=[]:=List.filter_eq_nil_iff.2 fun x hx=>by
  obtain⟨i,hi,rfl⟩:=List.mem_iff_getElem.1 hx
  rw[List.length_drop] at hi
  rw[List.getElem_drop]
  have:=h2 (k+i) (by omega) (by omega)
  simp only[decide_eq_true_eq]
  omega
 rw[e1,e2,List.append_nil]
theorem zbB{l:List Tr}{t:Int}{i:Nat}{b:Bool}(ha:Asc l)(h1:i≤l.length)(h2:∀a (h:a<l.length),a<i→l[a].pos<t)(h3:∀a (h:a<l.length),i≤a→t≤l[a].pos)(h4:b=true↔∃h:i<l.length,l[i].pos=t) :
  (b=true→∃h:i<l.length,zc2 l t=some l[i])∧(b=false→i=0→zc2 l t=none)∧(b=false→∀h:0<i,zc2 l t=some (l[i-1]'(by omega))):=by
 refine⟨fun hb=>?_,fun hb h0=>?_,fun hb h0=>?_⟩
 ·obtain⟨hi,e⟩:=h4.1 hb
  refine⟨hi,?_⟩
  rw[zc8 (i+1) (by omega) (fun a h hlt=>?_) (fun a h hle=>?_)]
  ·rw[List.take_succ_eq_append_getElem hi,List.getLast?_append];simp
  ·by_cases hai:a=i
   ·subst hai;omega
   ·have:=h2 a h (by omega);omega
  ·have:=(List.pairwise_iff_getElem.1 ha) i a hi h (by omega)
   omega
 ·subst h0
  rw[zc8 0 (by omega) (fun a h hlt=>by omega) (fun a h hle=>?_)]
  ·simp
  ·have h5:=h3 a h (by omega)
   by_cases e:l[a].pos=t
   ·by_cases ha0:a=0
    ·subst ha0
     exact absurd (h4.2 ⟨h,e⟩) (by rw[hb];simp)
    ·have h6:=(List.pairwise_iff_getElem.1 ha) 0 a (by omega) h (by omega)
     have h7:=h3 0 (by omega) (by omega)
     omega
   ·omega
 ·rw[zc8 i h1 (fun a h hlt=>by have:=h2 a h hlt;omega) (fun a h hle=>?_)]
  ·obtain⟨k,rfl⟩:∃k,i=k+1:=⟨i-1,by omega⟩
   rw[List.take_succ_eq_append_getElem (by omega),List.getLast?_append];simp
  ·have h5:=h3 a h (by omega)
   by_cases e:l[a].pos=t
   ·by_cases hai:a=i
    ·subst hai
     exact absurd (h4.2 ⟨h,e⟩) (by rw[hb];simp)
    ·have h6:=(List.pairwise_iff_getElem.1 ha) i a (by omega) h (by omega)
     have h7:=h3 i (by omega) (by omega)
     omega
   ·omega
theorem zcB{l:List Tr}{t:Int}{x:Tr}(h:zc2 l t=some x):x∈l∧x.pos≤t:=by
 have:=List.mem_of_getLast? h
 rw[List.mem_filter] at this
 exact⟨this.1,by simpa using this.2⟩
structure Ck where
 trans:List Tr
 ys:List Tr
 cycle:Int
 start:Int
 horizon:Int
def Ck.first(k:Ck):Int:=match k.ys with|[]=>0|x::_=>x.pos
def Ck.mins(k:Ck):Int:=k.cycle*1440
def Ck.base(k:Ck)(t:Int):Int:=(max (t-k.first) 0)/k.mins*k.mins
def lastY(k:Ck)(t:Int):Option Tr :=
 if k.ys=[]∨t<k.first then none else
  match zc2 k.ys (t-k.base t) with
  |some x=>if k.horizon≤x.pos+k.base t then some ⟨x.pos+k.base t,x.off⟩ else none
  |none=>none
def lastC(k:Ck)(t:Int):Option Tr:=match lastY k t with
 |some x=>some x
 |none=>zc2 k.trans t
def offC(k:Ck)(t:Int):Int:=match lastC k t with
 |some x=>x.off
 |none=>k.start
structure CkOK (k:Ck):Prop where
 trans:Asc k.trans
 ys:Asc k.ys
 cyc:1≤k.cycle∧k.cycle≤1000000000
 start : -1080≤k.start∧k.start≤1080
 hor : -2251799813685248≤k.horizon∧k.horizon≤2251799813685248
 toff:∀x∈k.trans,-1080≤x.off∧x.off≤1080
 yoff:∀x∈k.ys,-1080≤x.off∧x.off≤1080
 tpos:∀x∈k.trans,-2251799813685248≤x.pos∧x.pos≤2251799813685248
 ypos:∀x∈k.ys,-2251799813685248≤x.pos∧x.pos≤2251799813685248
theorem zfi{k:Ck}(h:k.ys≠[]):∃x∈k.ys,x.pos=k.first:=by
 unfold Ck.first
 cases hy:k.ys with
 |nil=>exact absurd hy h
 |cons x r=>exact⟨x,by simp,rfl⟩
theorem zfj{k:Ck}(h:0<k.ys.length):(k.ys[0]'h).pos=k.first:=by
 obtain⟨tr,ys,c,s,hz⟩:=k
 cases ys with
 |nil=>simp at h
 |cons x r=>rfl
theorem znR{k:Ck}(hk:CkOK k)(t:Int):0≤k.base t:=by
 unfold Ck.base Ck.mins
 have:=hk.cyc
 exact Int.mul_nonneg (Int.ediv_nonneg (by omega) (by omega)) (by omega)
theorem zpR{k:Ck}(hk:CkOK k){t:Int}(ht:k.first≤t):k.base t≤t-k.first:=by
 unfold Ck.base Ck.mins
 have:=hk.cyc
 have h1:=Int.ediv_mul_le (max (t-k.first) 0) (show k.cycle*1440≠0 by omega)
 omega
theorem znS{k:Ck}{t:Int}{x:Tr}(h:lastY k t=some x):x.pos≤t:=by
 unfold lastY at h
 split at h
 ·cases h
 ·split at h
  ·rename_i y hy
   split at h
   ·simp only[Option.some.injEq] at h
    subst h
    have:=(zcB hy).2
    simp only
    omega
   ·cases h
  ·cases h
theorem zlF{k:Ck}(hk:CkOK k){t:Int}{x:Tr}(h:lastY k t=some x) : -1080≤x.off∧x.off≤1080:=by
 unfold lastY at h
 split at h
 ·cases h
 ·split at h
  ·rename_i y hy
   split at h
   ·simp only[Option.some.injEq] at h
    subst h
    exact hk.yoff y (zcB hy).1
   ·cases h
  ·cases h
theorem znT{k:Ck}(hk:CkOK k){t:Int}{x:Tr}(h:lastY k t=some x) : -2251799813685248≤x.pos:=by
 unfold lastY at h
 split at h
 ·cases h
 ·split at h
  ·rename_i y hy
   split at h
   ·rename_i hh
    simp only[Option.some.injEq] at h
    subst h
    have:=hk.hor
    simp only
    omega
   ·cases h
  ·cases h
theorem zdL{k:Ck}(hk:CkOK k){t:Int}{x:Tr}(h:lastC k t=some x):x.pos≤t ∧ -2251799813685248≤x.pos∧(-1080≤x.off∧x.off≤1080):=by
 unfold lastC at h
 split at h
 ·rename_i y hy
  cases h
  exact⟨znS hy,znT hk hy,zlF hk hy⟩
 ·obtain⟨h1,h2⟩:=zcB h
  exact⟨h2,(hk.tpos x h1).1,hk.toff x h1⟩
theorem zeo{k:Ck}(hk:CkOK k)(t:Int) : -1080≤offC k t∧offC k t≤1080:=by
 unfold offC
 split
 ·rename_i x hx
  exact(zdL hk hx).2.2
 ·exact hk.start
def sortI(l:List Int):List Int:=l.mergeSort fun a b=>decide (a≤b)
def instF(k:Ck)(loc:Int):Nat→Int→List Int→List Int×Int×Int
 |0,_,l=>(l,0,0)
 |f+1,t,l=>match lastC k t with
  |none=>(sortI (if loc-offC k t≤t then l++[loc-offC k t] else l),0,0)
  |some y=>if y.pos<loc-1080 then(sortI (if loc-offC k t≤t∧y.pos≤loc-offC k t then l++[loc-offC k t] else l),0,0)
   else if y.pos+offC k (y.pos-1)≤loc∧loc<y.pos+y.off then([],y.pos,offC k (y.pos-1))
   else instF k loc f (y.pos-1) (if loc-offC k t≤t∧y.pos≤loc-offC k t then l++[loc-offC k t] else l)
def instC(k:Ck)(loc:Int):List Int×Int×Int:=instF k loc 2200 (loc+1080) []
def polC(gap:Int)(r:List Int×Int×Int)(loc:Int):List Int:=if gap=0 then[] else if gap=1 then[loc-r.2.2] else[r.2.1]
def instsC(k:Ck)(loc gap fold:Int):List Int :=
 if(instC k loc).1=[] then polC gap (instC k loc) loc else if fold=0 then(instC k loc).1.take 1 else if fold=1 then(instC k loc).1.drop ((instC k loc).1.length-1) else(instC k loc).1
structure Zv where
 ep:Int
 ma:Option Addr
 mn:Nat
 mc:Nat
 leap:Int
 ra:Option Addr
 rn:Nat
 rc:Nat
 start:Int
 ta:Option Addr
 tn:Nat
 tc:Nat
 hor:Int
 ya:Option Addr
 yn:Nat
 yc:Nat
def Zv.cells(z:Zv):List Value:=[.int .i64 z.ep,.slice z.ma z.mn z.mc,.int .i64 z.leap,.slice z.ra z.rn z.rc,.int .i64 z.start,.slice z.ta z.tn z.tc,.int .i64 z.hor,.slice z.ya z.yn z.yc]
def rowTr(l:List Tr):List Value:=(l.map Tr.cells).flatten
end Go.Proofs.YtdgndfabdmecmaaGreat
