/- Lemmas of our own, no statement of the seat; the last one of the claim's texts proves the law. -/
import Derived.Test.YtdgndfabdmecmaaGreatBxf
import Derived.Test.YtdgndfabdmecmaaGreatVcY
import Derived.Test.YtdgndfabdmecmaaGreatBxe
import Derived.Test.YtdgndfabdmecmaaGreatBxd
open Nat renaming reduceEqDiff → Qa, reduceAdd → Qb, reduceMul → Qc, reduceLeDiff → Qd, reduceLT → Qe, reduceBNe → Qf
open Int renaming reduceLE → Ja, reduceLT → Jb, reduceToNat → Jc, cast_ofNat_Int → Jd, reduceEq → Je, reduceNe → Jf
set_option linter.unusedSimpArgs false
set_option linter.unusedVariables false
namespace Go.Proofs.YtdgndfabdmecmaaGreat
open Go.Proofs.YtdgndfabdmecmaaGreat.Vc Go.RowKit
theorem zFrom(ad:Addr)(t:Int)(R:RO):zaV Tryz.prog 109 [.val (.pointer (some ad)),.val (.int .i64 t)] [] R fun R' bs r=>R'=R∧bs=[.box [.val (.pointer (some ad))],.box [.val (.int .i64 t)]]∧r = .fn 161 [.l 0 0,.l 1 0]:=by
 refine zdj mix Tryz.func109 comp109 (by simp[Tryz.ntmps109]) rfl rfl ?_;simp only[go_sem,↓reduceIte,Qa,vc109,rs109]
 first|rfl|exact⟨rfl,rfl⟩|exact⟨⟨rfl,rfl⟩,rfl⟩
def cL:Code→Code
 |.seq a _=>a
 |.cond _ a _=>a
 |.block _ a=>a
 |.loop a=>a
 |c=>c
def cR:Code→Code
 |.seq _ b=>b
 |.cond _ _ b=>b
 |c=>c
def vL:VCode→VCode
 |.seq a _=>a
 |.cond _ a _=>a
 |.block _ a=>a
 |.loop a=>a
 |c=>c
def vR:VCode→VCode
 |.seq _ b=>b
 |.cond _ _ b=>b
 |c=>c
noncomputable def b161:Code:=Tryz.f161.body.getD .skip
theorem b161A:comp Tryz.prog 78 (cL b161)=some (vL vc161):=by kernel_rfl
theorem b161B:comp Tryz.prog 78 (cL (cR b161))=some (vL (vR vc161)):=by kernel_rfl
theorem b161C:comp Tryz.prog 78 (cL (cR (cR b161)))=some (vL (vR (vR vc161))):=by kernel_rfl
theorem b161D:comp Tryz.prog 78 (cL (cR (cR (cR b161))))=some (vL (vR (vR (vR vc161)))):=by kernel_rfl
noncomputable def b161O:Code:=cL (cL (cR (cR (cR (cR b161)))))
noncomputable def b161I:Code:=cL (cL (cR (cL (cL b161O))))
noncomputable def b161S:Code:=cL (cL (cR (cR b161I)))
def v161O:VCode:=vL (vL (vR (vR (vR (vR vc161)))))
def v161I:VCode:=vL (vL (vR (vL (vL v161O))))
def v161S:VCode:=vL (vL (vR (vR v161I)))
theorem zrj:comp Tryz.prog 78 (cL (cL (cL b161O)))=some (vL (vL (vL v161O))):=by kernel_rfl
theorem zrk:comp Tryz.prog 78 (cR b161O)=some (vR v161O):=by kernel_rfl
theorem zp7:comp Tryz.prog 78 (cL b161I)=some (vL v161I):=by kernel_rfl
theorem zp8:comp Tryz.prog 78 (cL (cR b161I))=some (vL (vR v161I)):=by kernel_rfl
theorem zp9:comp Tryz.prog 78 (cR (cR (cR b161I)))=some (vR (vR (vR v161I))):=by kernel_rfl
theorem zqa:comp Tryz.prog 78 (cL b161S)=some (vL v161S):=by kernel_rfl
theorem zqb:comp Tryz.prog 78 (cL (cR b161S))=some (vL (vR v161S)):=by kernel_rfl
theorem zqc:comp Tryz.prog 78 (cR (cR b161S))=some (vR (vR v161S)):=by kernel_rfl
noncomputable def zdb:Array Oper:=match cL (cR (cR b161S)) with
 |.region _ ops _=>ops
 |_ => #[]
def l161:List VStep:=match vL (vR (vR v161S)) with
 |.ops l=>l.take 7
 |_=>[]
theorem zlO:cL (cR (cR b161S)) = .region 13 zdb false:=by kernel_rfl
theorem zlP:List.range zdb.size=[0,1,2,3,4,5,6]++[7,8,9]:=by kernel_rfl
theorem zlQ:zdb.all zbp=true:=by kernel_rfl
theorem znZ:zbj Tryz.prog true 78 zdb [0,1,2,3,4,5,6]=some l161:=by kernel_rfl
theorem zn0:∃at' ty pos after,zdb[7]?=some ⟨some 74,.call ⟨.value (.tmp 72),#[.tmp 73],at'⟩,ty,pos,after,some (4,true)⟩:=⟨_,_,_,_,rfl⟩
theorem zn1:∃t ty pos after,zdb[8]?=some ⟨some 75,.unOp .not t (.tmp 74),ty,pos,after,some (4,true)⟩:=⟨_,_,_,_,rfl⟩
theorem zn2:∃ty pos after,zdb[9]?=some ⟨some 76,.pick (.tmp 71) (.tmp 75) (.const (.bool false)),ty,pos,after,none⟩:=⟨_,_,_,rfl⟩
theorem zn3:∃o,zdb[4]?=some o∧o.dst=some 71:=⟨_,rfl,rfl⟩
theorem zlR(o:Oper)(tm:Array Value)(h:o.guard=some (4,true))(ht:tm[71]?=some (.bool true)):Region.wanted o (yielded zdb tm)=true:=by
 obtain⟨o4,h4,h5⟩:=zn3
 simp only[Region.wanted,h,yielded,h4,h5,Option.bind_some,ht]
 rfl
theorem zlS(k:Ck):k.first=fstP k.ys:=by
 unfold Ck.first fstP
 cases k.ys<;>rfl
set_option maxHeartbeats 4000000 in
theorem zrl(k:Ck)(hk:CkOK k)(ad:Addr)(ta:Option Addr)(tc:Nat)(ya:Option Addr)(yc:Nat)(R:RO)(h:CkV R ad k ta tc ya yc)(t:Int)(ht:t=k.horizon)(hlt:∀x∈k.trans,x.pos<t)(hcy:k.cycle≤1836800)
  (Bc Bt:Nat) (T:TypeId) (hc:R ⟨Bc,0,none⟩ (.pointer (some ad))) (wz:World) (hR:∀a v,R a v→wz.cell? a=some v∧a.block≠Bt) (hB:wz.heap[Bt]?=some (.cells #[.int .i64 t] T (0,0)))
  (n l:Nat) (Jx:World→Prop) (hY:k.ys≠[]→∀W1 (o:Int),KeptG (fun b=>b=Bt) wz W1→YieldAt (Fr none) (n-1) Tryz.prog l #[.agg #[.int .i64 (nextT k.ys k.cycle t),.int .i64 o]] W1 fun e W'=>e = .returned (.bool false)∧Jx W') :
  CallsIn (Fr none) n Tryz.prog 161 #[.func (.yield l) #[] #[],.pointer (some ⟨Bc,0,none⟩),.pointer (some ⟨Bt,0,none⟩)] wz fun e W'=>(∃v,e = .returned v)∧((k.ys=[]∧KeptG (fun b=>b=Bt) wz W')∨Jx W'):=by
 have hfst:=hk.hor
 refine callsIn_of_wp (c:=b161) Tryz.func161 rfl trivial ?_
 obtain⟨Q,hQ⟩:∃Q,Q=bodyPost Tryz.prog Tryz.f161 (fun e W'=>(∃v,e = .returned v)∧((k.ys=[]∧KeptG (fun b=>b=Bt) wz W')∨Jx W')):=⟨_,rfl⟩
 rw[←hQ]
 have hG:Granted wz (fun _=>Bt) (fun _=>0) [.box [.val (.int .i64 t)]] R:=by
  refine⟨fun j b hj=>?_,fun i j b b' hi hj _ _ _=>?_,fun a v ha=>⟨(hR a v ha).1,fun j b hj _=>(hR a v ha).2⟩⟩
  ·obtain⟨rfl,rfl⟩:j=0∧b = .box [.val (.int .i64 t)]:=by
    cases j with
    |zero=>simpa using hj.symm
    |succ j=>simp at hj
   exact⟨trivial,by simp[SV.ok],T,hB⟩
  ·cases i<;>cases j<;>simp at hi hj ⊢
 have hst:=zle (n:=78) (xs:=[.val (.func (.yield l) #[] #[]),.val (.pointer (some ⟨Bc,0,none⟩)),.loc 0 0]) (by simp) rfl rfl hG
 obtain⟨X,hX⟩:∃X:Ctx,X={ w0:=wz,R0:=R,B:=R,n:=78,g:=Gset (fun _=>Bt) [.box [.val (.int .i64 t)]],ng:=[Blk.box [.val (.int .i64 t)]].length,β0:=fun _=>Bt,κ0:=fun _=>0 }:=⟨_,rfl⟩
 rw[←hX] at hst
 have hXn:X.n=78:=by rw[hX]
 have hXk:X.keep=[]:=by rw[hX]
 have hXg:X.ng=1:=by rw[hX];rfl
 have hkept:∀w,KeptG X.g X.w0 w→KeptG (fun b=>b=Bt) wz w:=fun w hw=>by
  rw[hX] at hw
  exact⟨hw.os,hw.tape,hw.output,hw.size,fun b hb hn=>hw.block b hb (fun⟨_,_,_,_,e⟩=>hn e),hw.drawn⟩
 suffices hS:SemI Tryz.prog none n X [] b161 ⟨envS [.val (.func (.yield l) #[] #[]),.val (.pointer (some ⟨Bc,0,none⟩)),.loc 0 0],[.box [.val (.int .i64 t)]],R⟩ Q by
  exact hS _ _ _ _ hst
 show SemI Tryz.prog none n X [] (.seq (cL b161) (cR b161)) _ Q
 refine zaZ mix hXk (by rw[hXn];exact b161A) ?_
 rw[hXg]
 simp only[go_sem,vL,vc161]
 refine vload (.pointer (some ad)) hc ?_
 try simp only[go_sem,↓reduceIte,Qb]
 refine vload _ h.trans ?_
 try simp only[go_sem,↓reduceIte]
 have hlY:=h.ysV.2
 obtain⟨a1,c1,e1,hc1,htf⟩:=h.transV.form
 simp only[Value.slice.injEq,true_and] at e1
 obtain⟨rfl,rfl⟩:=e1
 obtain⟨a2,c2,e2,hc2,hyf⟩:=h.ysV.form
 simp only[Value.slice.injEq,true_and] at e2
 obtain⟨rfl,rfl⟩:=e2
 have hlT:=h.transV.2
 refine zaj Nat (fun i=>[(15,.val (.int .i64 i)),(13,.val (.slice ta k.trans.length tc)),(14,.val (.int .i64 k.trans.length)),(0,.val (.func (.yield l) #[] #[])),(1,.val (.pointer (some ⟨Bc,0,none⟩))),(2,.loc 0 0)])
  (fun _=>[.box [.val (.int .i64 t)]]) (fun i _=>i≤k.trans.length) (fun i=>k.trans.length-i) 0 ?_ ?_ ?_ ?_
 ·(try simp only[go_sem,↓reduceIte,Qa,reduceCtorEq])<;>(repeat' (first|rfl|trivial|constructor|(intro h;exact absurd rfl h)))
 ·rfl
 ·exact Nat.zero_le _
 rintro i env R1 hle1 hE hi
 (simp only[go_sem] at hE;obtain⟨e15,e13,e14,e0,e1,e2⟩:=hE;simp only[go_sem,↓reduceIte,Qa,Qb,e15,e13,e14];dsimp only at *)
 refine⟨fun hi1=>?_,fun hi1=>?_⟩
 ·have hi':i<k.trans.length:=by omega
  obtain⟨adx,had,hRx⟩:=htf i hi'
  have hxl:=hlt k.trans[i] (List.getElem_mem _)
  refine⟨by omega,vat adx had ?_⟩
  try simp only[go_sem,↓reduceIte]
  refine zaf k.trans[i].cells rfl (fun j u hj=>hle1 _ _ (hRx j u hj)) ?_
  simp only[go_sem,↓reduceIte,Qa,Qb,reduceCtorEq,Tr.cells,e15,e13,e14,e0,e1,e2]
  refine⟨fun h=>absurd h (by omega),fun _=>⟨_,W.in64 (by omega),i+1,by omega,by norm_cast,rfl,by omega⟩⟩
 show SemI Tryz.prog none n X [] (.seq (cL (cR b161)) (cR (cR b161))) _ Q
 refine zaZ mix hXk (by rw[hXn];exact b161B) ?_
 rw[hXg]
 simp only[go_sem,↓reduceIte,Qa,vL,vR,vc161,e1]
 refine vload (.pointer (some ad)) (hle1 _ _ hc) ?_
 try simp only[go_sem,↓reduceIte,Qb]
 refine vload _ (hle1 _ _ h.ys) ?_
 try simp only[go_sem,↓reduceIte]
 refine⟨fun h0=>?_,fun h0=>?_⟩
 ·have hy0:k.ys=[]:=List.eq_nil_of_length_eq_zero (by omega)
  intro β κ tm w hr
  subst hQ
  exact⟨rfl,_,zbN (us:=[]) rfl,⟨_,rfl⟩,.inl ⟨hy0,hkept _ hr.below⟩⟩
 have hyn:k.ys≠[]:=fun e=>h0 (by rw[e];rfl)
 show SemI Tryz.prog none n X [] (.seq (cL (cR (cR b161))) (cR (cR (cR b161)))) _ Q
 refine zaZ mix hXk (by rw[hXn];exact b161C) ?_
 rw[hXg]
 simp only[go_sem,↓reduceIte,Qa,vL,vR,vc161,e1,e2]
 refine vload (.pointer (some ad)) (hle1 _ _ hc) ?_
 try simp only[go_sem,↓reduceIte,Qb]
 refine vload (.int .i64 k.horizon) (hle1 _ _ h.hor) ?_
 try simp only[go_sem,↓reduceIte,Qa,e2]
 rw[show max t k.horizon=t by omega]
 show SemI Tryz.prog none n X [] (.seq (cL (cR (cR (cR b161)))) (cR (cR (cR (cR b161))))) _ Q
 refine zaZ mix hXk (by rw[hXn];exact b161D) ?_
 rw[hXg]
 simp only[go_sem,↓reduceIte,Qa,vL,vR,vc161,e1]
 refine vload (.pointer (some ad)) (hle1 _ _ hc) ?_
 try simp only[go_sem,↓reduceIte,Qa,e1,e2]
 refine vload (.pointer (some ad)) (hle1 _ _ hc) ?_
 try simp only[go_sem,↓reduceIte,Qa]
 refine vcall (zpk k hk hyn t (by omega) ad ta tc ya yc R1 (h.mono hle1)) ?_
 rintro R2 r hle2 rfl
 try simp only[go_sem,↓reduceIte,Qa]
 refine vcall (zeY k hk ad ta tc ya yc R2 ((h.mono hle1).mono hle2)) ?_
 rintro R3 r hle3 rfl
 try simp only[go_sem,↓reduceIte,Qa]
 have hle13:RO.le R R3:=RO.le_trans hle1 (RO.le_trans hle2 hle3)
 have hcyc:=hk.cyc
 have hposY:=hk.ypos
 obtain⟨x0,hx0,hx0p⟩:=zfi hyn
 have hx0b:=hposY x0 hx0
 have hfp:=zlS k
 have hturn:max (t-k.first) 0/k.mins=zaA k.ys k.cycle t:=by unfold zaA Ck.mins;rw[hfp]
 obtain⟨tu,htu⟩:∃tu,tu=zaA k.ys k.cycle t:=⟨_,rfl⟩
 have hbd:=zhG (L:=k.ys) (t:=t) ⟨hcyc.1,hcy⟩ (by omega) (by omega)
 have hT:=zfs (L:=k.ys) (t:=t) hcyc.1
 have hT0:=zdr (L:=k.ys) (t:=t) hcyc.1
 rw[hturn,←htu]
 rw[←htu] at hbd hT hT0
 rw[show k.mins=k.cycle*1440 from rfl]
 refine⟨_,W.in64 (by omega),?_⟩
 show SemI Tryz.prog none n X [] (.block 2 (.loop b161O)) _ Q
 refine zee ?_
 refine zjV Nat (fun c=>[(6,.val (.int .i64 ((tu+c)*(k.cycle*1440)))),(0,.val (.func (.yield l) #[] #[])),(1,.val (.pointer (some ⟨Bc,0,none⟩))),(2,.loc 0 0)])
  (fun _=>[.box [.val (.int .i64 t)]]) (fun c _=>c=0∨c=1∧∀x∈k.ys,x.pos+tu*(k.cycle*1440)<t) (fun c=>2-c) 0 [] ?_ ?_ ?_ ?_
 ·try simp only[go_sem,↓reduceIte,Qa,reduceCtorEq,e0,e1,e2]
  rw[show((0:Nat):Int)=0 from rfl,Int.add_zero]
 ·rw[hXg];rfl
 ·exact .inl rfl
 rintro c env R4 hle4 hE hc01
 (simp only[go_sem] at hE;obtain⟨e6,e0',e1',e2'⟩:=hE;simp only[go_sem];dsimp only at *)
 have hle14:RO.le R R4:=RO.le_trans hle13 hle4
 obtain⟨X1,hX1⟩:∃X1:Ctx,X1={ X with R0:=R3 }:=⟨_,rfl⟩
 have hX1n:X1.n=78:=by rw[hX1];exact hXn
 have hX1k:X1.keep=[]:=by rw[hX1];exact hXk
 have hX1g:X1.ng=1:=by rw[hX1];exact hXg
 rw[←hX1]
 generalize hQ1:Exit.then _ (Exit.inBlock 2 Q)=Q1
 have hcs:tu+(c:Int)≤tu+1:=by omega
 have hcB:0≤(tu+c)*(k.cycle*1440)∧(tu+c)*(k.cycle*1440)≤9007199254740992+2644992000:=by
  rcases hc01 with h|⟨h,_⟩
  ·rw[h,show((0:Nat):Int)=0 from rfl,Int.add_zero];omega
  ·rw[h,show((1:Nat):Int)=1 from rfl,Int.add_mul,Int.one_mul];omega
 show SemI Tryz.prog none n X1 [] (.seq (.block 3 (.seq (cL (cL (cL b161O))) (.block 4 (.loop b161I)))) (cR b161O)) _ Q1
 refine ze4 (zee (zaZ mix hX1k (by rw[hX1n];exact zrj) ?_))
 rw[hX1g]
 simp only[go_sem,vL,vR,v161O,vc161,e1']
 refine vload (.pointer (some ad)) (hle14 _ _ hc) ?_
 try simp only[go_sem,↓reduceIte,Qb]
 refine vload _ (hle14 _ _ h.ys) ?_
 try simp only[go_sem,↓reduceIte]
 refine zee ?_
 generalize hQ4:Exit.inBlock 4 _=Q4
 refine zjV Nat (fun i=>[(58,.val (.int .i64 i)),(56,.val (.slice ya k.ys.length yc)),(57,.val (.int .i64 k.ys.length)),(6,.val (.int .i64 ((tu+c)*(k.cycle*1440)))),(0,.val (.func (.yield l) #[] #[])),(1,.val (.pointer (some ⟨Bc,0,none⟩))),(2,.loc 0 0)])
  (fun _=>[.box [.val (.int .i64 t)]]) (fun i _=>i≤k.ys.length∧∀j (h:j<k.ys.length),j<i→k.ys[j].pos+(tu+c)*(k.cycle*1440)<t) (fun i=>k.ys.length-i) 0 [] ?_ ?_ ?_ ?_
 ·try simp only[go_sem,↓reduceIte,Qa,reduceCtorEq,e6,e0',e1',e2']
  rfl
 ·rw[hX1g];rfl
 ·exact⟨Nat.zero_le _,fun j _ h=>absurd h (by omega)⟩
 rintro i env R5 hle5 hE ⟨hi,hj⟩
 (simp only[go_sem] at hE;obtain⟨e58,e56,e57,e6',e0'',e1'',e2''⟩:=hE;simp only[go_sem];dsimp only at *)
 have hle15:RO.le R R5:=RO.le_trans hle14 hle5
 obtain⟨X2,hX2⟩:∃X2:Ctx,X2={ X1 with R0:=R4 }:=⟨_,rfl⟩
 have hX2n:X2.n=78:=by rw[hX2];exact hX1n
 have hX2k:X2.keep=[]:=by rw[hX2];exact hX1k
 have hX2g:X2.ng=1:=by rw[hX2];exact hX1g
 rw[←hX2]
 generalize hQ5:Exit.then _ Q4=Q5
 show SemI Tryz.prog none n X2 [] (.seq (cL b161I) (.seq (cL (cR b161I)) (.seq (.block 5 b161S) (cR (cR (cR b161I)))))) _ Q5
 refine zaZ mix hX2k (by rw[hX2n];exact zp7) ?_
 rw[hX2g]
 simp only[go_sem,vL,vR,v161I,v161O,vc161,e58,e57]
 refine zaZ mix hX2k (by rw[hX2n];exact zp8) ?_
 rw[hX2g]
 simp only[go_sem,↓reduceIte,vL,vR,v161I,v161O,vc161]
 refine⟨fun hlt1=>?_,fun hge1=>?_⟩
 ·have hi':i<k.ys.length:=by omega
  obtain⟨adx,had,hRx⟩:=hyf i hi'
  have hxb:=hposY k.ys[i] (List.getElem_mem _)
  refine ze4 (zee ?_)
  show SemI Tryz.prog none n X2 [] (.seq (cL b161S) (.seq (cL (cR b161S)) (.seq (cL (cR (cR b161S))) (cR (cR (cR b161S)))))) _ _
  generalize hQ6:Exit.inBlock 5 _=Q6
  refine zaZ mix hX2k (by rw[hX2n];exact zqa) ?_
  rw[hX2g]
  simp only[go_sem,↓reduceIte,Qa,vL,vR,v161S,v161I,v161O,vc161,e58,e56]
  refine⟨by omega,vat adx had ?_⟩
  try simp only[go_sem,↓reduceIte]
  refine zaf k.ys[i].cells rfl (fun j u hj=>hle15 _ _ (hRx j u hj)) ?_
  simp only[go_sem,↓reduceIte,Qa,Qb,Tr.cells]
  refine zaZ mix hX2k (by rw[hX2n];exact zqb) ?_
  rw[hX2g]
  simp only[go_sem,↓reduceIte,Qa,Qb,Qd,vL,vR,v161S,v161I,v161O,vc161,e6']
  refine⟨_,W.in64 (by omega),?_⟩
  by_cases hit:t≤k.ys[i].pos+(tu+c)*(k.cycle*1440)
  ·have hn:=zft (t:=t) hcyc.1 (k:=tu+c) (by rw[←htu];rcases hc01 with hh|⟨hh,hg⟩;exact .inl (by rw[hh,show((0:Nat):Int)=0 from rfl,Int.add_zero]);exact .inr ⟨by rw[hh];rfl,hg⟩) hi' hit hj
   rw[zlO]
   refine ze4 (zgd [0,1,2,3,4,5,6] [7,8,9] zlP zlQ (by rw[hX2n];exact znZ) ?_)
   rw[hX2g]
   simp only[go_sem,↓reduceIte,Qa,Qb,reduceCtorEq,l161,vL,vR,v161S,v161I,v161O,vc161,e0'',e2'',decide_eq_true hit,List.take]
   intro β κ tm w hr
   have hsz:tm.size=78:=hr.size.trans hX2n
   have e71:tm.getD 71 undef = .bool true:=(hr.env 71).trans rfl
   have h71:tm[71]?=some (.bool true):=by
    rw[Array.getD_eq_getD_getElem?,Array.getElem?_eq_getElem (by omega),Option.getD_some] at e71
    rw[Array.getElem?_eq_getElem (by omega),e71]
   have e72:(⟨tm,[]⟩:Act).eval (.tmp 72) = .func (.yield l) #[] #[]:=(hr.eval [] (.tmp 72)).trans (by simp only[go_sem,↓reduceIte,Qa,den])
   have e73:(⟨tm,[]⟩:Act).eval (.tmp 73) = .agg #[.int .i64 (nextT k.ys k.cycle t),.int .i64 k.ys[i].off]:=(hr.eval [] (.tmp 73)).trans (by simp only[go_sem,↓reduceIte,den,hn])
   have hkw:KeptG (fun b=>b=Bt) wz w:=hkept _ (by have:=hr.below;rw[hX2,hX1] at this;exact this)
   obtain⟨at',ty,pos,after,h7⟩:=zn0
   obtain⟨t8,ty8,pos8,after8,h8⟩:=zn1
   obtain⟨ty9,pos9,after9,h9⟩:=zn2
   rw[wpOpsIn_cons]
   unfold wpOpIn
   simp only[h7]
   rw[if_pos (zlR _ _ rfl h71)]
   refine⟨fun _ _=>trivial,?_⟩
   rw[show(Fr none).round=none from rfl,Oper.semAt_none,znD _ _ _ _ e72]
   obtain⟨gf,tmps,assign,body,hrun,hround⟩:=hY hyn w k.ys[i].off hkw
   rw[show(#[Operand.tmp 73]:Array Operand).map (⟨tm,[]⟩:Act).eval = #[.agg #[.int .i64 (nextT k.ys k.cycle t),.int .i64 k.ys[i].off]] by simp[e73]]
   rw[hrun,Oper.uponIn_round]
   refine⟨fun e=>(by cases e),RoundIn.mono hround ?_⟩
   rintro e w' ⟨rfl,hJ⟩
   show wpOpsIn (Fr none) n Tryz.prog zdb _ [8,9] ⟨tm.setIfInBounds 74 (.bool false),[]⟩ w'
   have h71':(tm.setIfInBounds 74 (.bool false))[71]?=some (.bool true):=by rw[Array.getElem?_setIfInBounds_ne (by decide)];exact h71
   rw[wpOpsIn_cons]
   refine zgM h8 rfl (zlR _ _ rfl h71') (vo := .un .not (.tmp 74)) rfl rfl (v := .bool true) ?_ ?_
   ·have h74:(tm.setIfInBounds 74 (.bool false)).getD 74 undef = .bool false:=by rw[zdv _ _ _ _ (by omega),if_pos rfl]
    simp[vcOp,St.ev,valS,vcUn,hsz]
   show wpOpsIn (Fr none) n Tryz.prog zdb _ [9] ⟨(tm.setIfInBounds 74 (.bool false)).setIfInBounds 75 (.bool true),[]⟩ w'
   rw[wpOpsIn_cons]
   refine zgM h9 rfl rfl (vo := .pick (.tmp 71) (.tmp 75) (.const (.bool false))) rfl rfl (v := .bool true) ?_ ?_
   ·have h75:((tm.setIfInBounds 74 (.bool false)).setIfInBounds 75 (.bool true)).getD 75 undef = .bool true:=by rw[zdv _ _ _ _ (by simp;omega),if_pos rfl]
    have h71b:((tm.setIfInBounds 74 (.bool false)).setIfInBounds 75 (.bool true)).getD 71 undef = .bool true:=by
     rw[zdv _ _ _ _ (by simp;omega),if_neg (by decide),zdv _ _ _ _ (by omega),if_neg (by decide)];exact e71
    simp[vcOp,St.ev,valS,hsz]
    rw[show tm[71] = .bool true from(Array.getElem?_eq_some_iff.1 h71).2]
   show(cR (cR (cR b161S))).wpIn (Fr none) n Tryz.prog Q6 ⟨((tm.setIfInBounds 74 (.bool false)).setIfInBounds 75 (.bool true)).setIfInBounds 76 (.bool true),[]⟩ w'
   show(Code.cond (.tmp 76) .ret .skip).wpIn (Fr none) n Tryz.prog Q6 ⟨((tm.setIfInBounds 74 (.bool false)).setIfInBounds 75 (.bool true)).setIfInBounds 76 (.bool true),[]⟩ w'
   refine wpIn_cond_true ?_ (wpIn_ret ?_)
   ·show(((tm.setIfInBounds 74 (.bool false)).setIfInBounds 75 (.bool true)).setIfInBounds 76 (.bool true)).getD 76 undef=_
    rw[zdv _ _ _ _ (by simp;omega),if_pos rfl]
   ·simp only[←hQ6,←hQ5,←hQ4,←hQ1,Exit.inBlock,Exit.then]
    subst hQ
    exact⟨rfl,_,zbN (us:=[]) rfl,⟨_,rfl⟩,.inr hJ⟩
  ·refine zjU mix hX2k (by rw[hX2n];exact zqc) ?_
   rw[hX2g]
   simp only[go_sem,↓reduceIte,Qa,vL,vR,v161S,v161I,v161O,vc161,e2'',decide_eq_false hit]
   intro β κ tm w hr
   rw[←hQ6]
   show(cR (cR (cR b161I))).wpIn (Fr none) n Tryz.prog Q5 ⟨tm,[]⟩ w
   refine zjU mix hX2k (by rw[hX2n];exact zp9) ?_ β κ tm w hr
   rw[hX2g]
   simp only[go_sem,↓reduceIte,Qa,vL,vR,v161I,v161O,vc161,e58]
   refine⟨_,W.in64 (by omega),?_⟩
   intro β κ tm w hr
   rw[←hQ5]
   refine⟨β,κ,_,tm,rfl,hr,i+1,[],by omega,?_,by rw[hX1g];rfl,by omega,?_⟩
   ·simp only[go_sem,↓reduceIte,Qa,reduceCtorEq,e56,e57,e6',e0'',e1'',e2'']
    first|rfl|exact⟨by norm_cast,trivial⟩|norm_cast
   ·intro j hjl hji
    rcases Nat.lt_or_ge j i with hh|hh
    ·exact hj j hjl hh
    ·obtain rfl:j=i:=by omega
     omega
 ·have hil:i=k.ys.length:=by omega
  have hall:∀x∈k.ys,x.pos+(tu+c)*(k.cycle*1440)<t:=fun x hx=>by
   obtain⟨j,hjl,rfl⟩:=List.mem_iff_getElem.1 hx
   exact hj j hjl (by omega)
  have hc0:c=0:=by
   rcases hc01 with hh|⟨hh,_⟩
   ·exact hh
   ·have h1:=hall x0 hx0
    rw[hh,show((1:Nat):Int)=1 from rfl] at h1
    omega
  intro β κ tm w hr
  rw[←hQ5]
  show Q4 (.exit 4) _ _
  rw[←hQ4]
  show(cR b161O).wpIn (Fr none) n Tryz.prog Q1 ⟨tm,[]⟩ w
  rw[hX2] at hr
  have hr1:=hr.up (X:=X1) (by rw[hX1];exact hle4)
  refine zjU mix hX1k (by rw[hX1n];exact zrk) ?_ β κ tm w hr1
  rw[hX1g]
  simp only[go_sem,↓reduceIte,Qa,vL,vR,v161O,vc161,e6',e1'']
  refine vload (.pointer (some ad)) (hle15 _ _ hc) ?_
  try simp only[go_sem,↓reduceIte]
  refine vcall (zeY k hk ad ta tc ya yc R5 (h.mono hle15)) ?_
  rintro R6 r hle6 rfl
  try simp only[go_sem,↓reduceIte,Qa]
  rw[show k.mins=k.cycle*1440 from rfl]
  refine⟨_,W.in64 (by omega),?_⟩
  intro β κ tm w hr
  rw[←hQ1]
  refine⟨β,κ,_,tm,rfl,hr,1,[],by omega,?_,by rw[hXg];rfl,.inr ⟨rfl,?_⟩⟩
  ·simp only[go_sem,↓reduceIte,Qa,reduceCtorEq,e0'',e1'',e2'']
   rw[hc0,show((0:Nat):Int)=0 from rfl,show((1:Nat):Int)=1 from rfl,Int.add_zero,Int.add_mul,Int.one_mul]
  ·intro x hx
   have:=hall x hx
   rwa [hc0,show((0:Nat):Int)=0 from rfl,Int.add_zero] at this
structure ZnOK (n:Zn) (L:List Tr):Prop where
 cal:n.cal.valid
 start : -1080≤n.start∧n.start≤1080
 hor : -2251799813685248≤n.hor∧n.hor≤2251799813685248
 tlen:n.trans.length≤512
 tr:∀x∈n.trans,(-1080≤x.off∧x.off≤1080)∧(-2251799813685248≤x.pos∧x.pos≤2251799813685248)∧x.pos<n.hor
 gap:∀i (h:i+1<n.trans.length),2160≤n.trans[i+1].pos-n.trans[i].pos
 years:zg0 n L
 next:L≠[]→∀x,n.trans.getLast?=some x→2160≤nextT L (cycD n.cal) n.hor-x.pos
theorem zqd{l:List Tr}(h:∀i (h:i+1<l.length),2160≤l[i+1].pos-l[i].pos):Asc l:=by
 unfold Asc
 rw[List.pairwise_iff_getElem]
 intro i j hi hj hij
 obtain⟨d,rfl⟩:∃d,j=i+1+d:=⟨j-i-1,by omega⟩
 clear hij
 induction d with
 |zero=>have:=h i hj;simp only[Nat.add_zero];omega
 |succ d ih =>
  have h1:=ih (by omega)
  have:=h (i+1+d) (by omega)
  simp only[show i+1+(d+1)=i+1+d+1 by omega]
  omega
theorem zlT{c:Cal}{r0 r1:Yr}(h0:YrOK c r0)(h1:YrOK c r1)(e:Int):∀(f:Nat) (begin y:Int) (out:List Tr),(∀x∈out,-1080≤x.off∧x.off≤1080)→∀x∈goY c r0 r1 e f begin y out,-1080≤x.off∧x.off≤1080
 |0,_,_,_,ho,x,hx=>ho x hx
 |f+1,begin,y,out,ho,x,hx=>by
  rw[goY] at hx
  split at hx
  ·refine zlT h0 h1 e f _ _ _ (fun x hx=>?_) x hx
   rcases List.mem_append.1 hx with hx|hx
   ·exact ho x hx
   ·have o0:=h0.off
    have o1:=h1.off
    rcases List.mem_append.1 hx with hx|hx<;>unfold yr1 at hx<;>split at hx<;>simp only[List.mem_singleton,List.not_mem_nil] at hx<;>subst hx<;>dsimp only<;>omega
  ·exact ho x hx
theorem ZnOK.ck{n:Zn}{L:List Tr}(h:ZnOK n L):CkOK (ckOf n L):=by
 have hdb:=h.cal.days_bd
 have hpp:=h.cal.per.2.1
 have hcb:=zdM (c:=n.cal) (by omega)
 refine⟨zqd h.gap,?_,?_,h.start,h.hor,fun x hx=>(h.tr x hx).1,?_,fun x hx=>(h.tr x hx).2.1,?_⟩
 ·rcases h.years with⟨_,e⟩|⟨r0,r1,_,_,_,_,hF⟩
  ·show Asc L
   rw[e];exact List.Pairwise.nil
  ·exact hF.asc
 ·show 1≤(if n.yearly=[] then(1:Int) else cycD n.cal)∧(if n.yearly=[] then(1:Int) else cycD n.cal)≤1000000000
  split<;>omega
 ·intro x hx
  rcases h.years with⟨_,e⟩|⟨r0,r1,_,h0,h1,hp,_⟩
  ·change x∈L at hx
   rw[e] at hx;simp at hx
  ·exact zlT h0 h1 _ _ _ _ _ (by simp) x (hp.mem_iff.1 hx)
 ·intro x hx
  rcases h.years with⟨_,e⟩|⟨r0,r1,_,h0,h1,hp,_⟩
  ·change x∈L at hx
   rw[e] at hx;simp at hx
  ·have:=zfu h.cal h0 h1 x (hp.mem_iff.1 hx)
   omega
noncomputable def b72:Code:=Tryz.f72.body.getD .skip
theorem b72_0:comp Tryz.prog 173 (cL b72)=some (vL vc72):=by kernel_rfl
theorem b72_1:comp Tryz.prog 173 (cL (cR b72))=some (vL (vR vc72)):=by kernel_rfl
theorem b72_2:comp Tryz.prog 173 (cL (cR (cR b72)))=some (vL (vR (vR vc72))):=by kernel_rfl
theorem b72_3:comp Tryz.prog 173 (cL (cR (cR (cR b72))))=some (vL (vR (vR (vR vc72)))):=by kernel_rfl
theorem b72_4:comp Tryz.prog 173 (cL (cR (cR (cR (cR b72)))))=some (vL (vR (vR (vR (vR vc72))))):=by kernel_rfl
theorem b72_5:comp Tryz.prog 173 (cL (cR (cR (cR (cR (cR b72))))))=some (vL (vR (vR (vR (vR (vR vc72)))))):=by kernel_rfl
theorem b72_6:comp Tryz.prog 173 (cL (cR (cR (cR (cR (cR (cR b72)))))))=some (vL (vR (vR (vR (vR (vR (vR vc72))))))):=by kernel_rfl
noncomputable def b72R:Code:=cR (cR (cR (cR (cR (cR (cR b72))))))
def v72R:VCode:=vR (vR (vR (vR (vR (vR (vR vc72))))))
theorem b72_R:comp Tryz.prog 173 b72R=some v72R:=by kernel_rfl
theorem b72_8:comp Tryz.prog 173 (cR b72R)=some (vR v72R):=by kernel_rfl
theorem zrm:comp Tryz.prog 173 (cL (cL b72R))=some (vL (vL v72R)):=by kernel_rfl
theorem zrn:comp Tryz.prog 173 (cL (cR (cL b72R)))=some (vL (vR (vL v72R))):=by kernel_rfl
noncomputable def b72C:Code:=cR (cR (cL b72R))
def v72C:VCode:=vR (vR (vL v72R))
theorem zro:comp Tryz.prog 173 (cL (cL b72C))=some (vL (vL v72C)):=by kernel_rfl
def PostO(n:Zn)(L:List Tr)(R':RO)(v:Value):Prop:=∃ad ta tc ya yc,v = .tuple #[.pointer (some ad),.bool true]∧CkV R' ad (ckOf n L) ta tc ya yc
def cA:Code→Code
 |.rangeFunc _ _ a _=>a
 |c=>c
def cB:Code→Code
 |.rangeFunc _ _ _ b=>b
 |c=>c
noncomputable def b72A:Code:=cA (cL (cR (cL b72C)))
noncomputable def b72B:Code:=cB (cL (cR (cL b72C)))
theorem zrp:cR (cL b72C) = .block 4 (.rangeFunc (.tmp 158) #[159] b72A b72B):=by kernel_rfl
def v72A:VCode := .ops [⟨some 11,none,.alloc [.int .i64 0,.int .i64 0]⟩,⟨none,none,.store 2 (.tmp 11) (.tmp 159)⟩]
theorem b72_A:comp Tryz.prog 173 b72A=some v72A:=by kernel_rfl
def v72B:VCode:=(.block 5 (.seq (.tree (.step ⟨some 160,none,.load none (.tmp 8)⟩ (.step ⟨some 161,none,.faddr (.tmp 11) 0⟩ (.step ⟨some 163,none,.faddr (.tmp 1) 5⟩ (.alt ⟨some 162,none,.load none (.tmp 161)⟩ (.alt ⟨some 164,none,.load none (.tmp 163)⟩ (.alt ⟨some 165,none,.load none (.tmp 10)⟩ (.step ⟨some 166,none,.bin .sub (.tmp 165) (.const (.int .i64 1))⟩ (.step ⟨some 167,none,.iaddr (.tmp 164) (.tmp 166) 2⟩ (.step ⟨some 168,none,.faddr (.tmp 167) 0⟩ (.alt ⟨some 169,none,.load none (.tmp 168)⟩ (.step ⟨some 170,none,.bin .sub (.tmp 162) (.tmp 169)⟩ (.step ⟨some 171,none,.bin .geq (.tmp 170) (.const (.int .i64 2160))⟩ (.step ⟨none,none,.store 1 (.tmp 2) (.tmp 160)⟩ (.step ⟨none,none,.store 1 (.tmp 3) (.tmp 171)⟩ .nil)))) (.step ⟨none,none,.store 1 (.tmp 2) (.tmp 160)⟩ (.step ⟨some 169,none,.load none (.tmp 168)⟩ (.step ⟨some 170,none,.bin .sub (.tmp 162) (.tmp 169)⟩ (.step ⟨some 171,none,.bin .geq (.tmp 170) (.const (.int .i64 2160))⟩ (.step ⟨none,none,.store 1 (.tmp 3) (.tmp 171)⟩ .nil))))))))) (.step ⟨none,none,.store 1 (.tmp 2) (.tmp 160)⟩ (.step ⟨some 165,none,.load none (.tmp 10)⟩ (.step ⟨some 166,none,.bin .sub (.tmp 165) (.const (.int .i64 1))⟩ (.step ⟨some 167,none,.iaddr (.tmp 164) (.tmp 166) 2⟩ (.step ⟨some 168,none,.faddr (.tmp 167) 0⟩ (.step ⟨some 169,none,.load none (.tmp 168)⟩ (.step ⟨some 170,none,.bin .sub (.tmp 162) (.tmp 169)⟩ (.step ⟨some 171,none,.bin .geq (.tmp 170) (.const (.int .i64 2160))⟩ (.step ⟨none,none,.store 1 (.tmp 3) (.tmp 171)⟩ .nil)))))))))) (.alt ⟨some 165,none,.load none (.tmp 10)⟩ (.step ⟨some 166,none,.bin .sub (.tmp 165) (.const (.int .i64 1))⟩ (.alt ⟨some 164,none,.load none (.tmp 163)⟩ (.step ⟨some 167,none,.iaddr (.tmp 164) (.tmp 166) 2⟩ (.step ⟨some 168,none,.faddr (.tmp 167) 0⟩ (.alt ⟨some 169,none,.load none (.tmp 168)⟩ (.step ⟨some 170,none,.bin .sub (.tmp 162) (.tmp 169)⟩ (.step ⟨some 171,none,.bin .geq (.tmp 170) (.const (.int .i64 2160))⟩ (.step ⟨none,none,.store 1 (.tmp 2) (.tmp 160)⟩ (.step ⟨none,none,.store 1 (.tmp 3) (.tmp 171)⟩ .nil)))) (.step ⟨none,none,.store 1 (.tmp 2) (.tmp 160)⟩ (.step ⟨some 169,none,.load none (.tmp 168)⟩ (.step ⟨some 170,none,.bin .sub (.tmp 162) (.tmp 169)⟩ (.step ⟨some 171,none,.bin .geq (.tmp 170) (.const (.int .i64 2160))⟩ (.step ⟨none,none,.store 1 (.tmp 3) (.tmp 171)⟩ .nil)))))))) (.step ⟨none,none,.store 1 (.tmp 2) (.tmp 160)⟩ (.step ⟨some 164,none,.load none (.tmp 163)⟩ (.step ⟨some 167,none,.iaddr (.tmp 164) (.tmp 166) 2⟩ (.step ⟨some 168,none,.faddr (.tmp 167) 0⟩ (.step ⟨some 169,none,.load none (.tmp 168)⟩ (.step ⟨some 170,none,.bin .sub (.tmp 162) (.tmp 169)⟩ (.step ⟨some 171,none,.bin .geq (.tmp 170) (.const (.int .i64 2160))⟩ (.step ⟨none,none,.store 1 (.tmp 3) (.tmp 171)⟩ .nil)))))))))) (.step ⟨none,none,.store 1 (.tmp 2) (.tmp 160)⟩ (.step ⟨some 164,none,.load none (.tmp 163)⟩ (.step ⟨some 165,none,.load none (.tmp 10)⟩ (.step ⟨some 166,none,.bin .sub (.tmp 165) (.const (.int .i64 1))⟩ (.step ⟨some 167,none,.iaddr (.tmp 164) (.tmp 166) 2⟩ (.step ⟨some 168,none,.faddr (.tmp 167) 0⟩ (.step ⟨some 169,none,.load none (.tmp 168)⟩ (.step ⟨some 170,none,.bin .sub (.tmp 162) (.tmp 169)⟩ (.step ⟨some 171,none,.bin .geq (.tmp 170) (.const (.int .i64 2160))⟩ (.step ⟨none,none,.store 1 (.tmp 3) (.tmp 171)⟩ .nil)))))))))))) (.alt ⟨some 164,none,.load none (.tmp 163)⟩ (.alt ⟨some 162,none,.load none (.tmp 161)⟩ (.alt ⟨some 165,none,.load none (.tmp 10)⟩ (.step ⟨some 166,none,.bin .sub (.tmp 165) (.const (.int .i64 1))⟩ (.step ⟨some 167,none,.iaddr (.tmp 164) (.tmp 166) 2⟩ (.step ⟨some 168,none,.faddr (.tmp 167) 0⟩ (.alt ⟨some 169,none,.load none (.tmp 168)⟩ (.step ⟨some 170,none,.bin .sub (.tmp 162) (.tmp 169)⟩ (.step ⟨some 171,none,.bin .geq (.tmp 170) (.const (.int .i64 2160))⟩ (.step ⟨none,none,.store 1 (.tmp 2) (.tmp 160)⟩ (.step ⟨none,none,.store 1 (.tmp 3) (.tmp 171)⟩ .nil)))) (.step ⟨none,none,.store 1 (.tmp 2) (.tmp 160)⟩ (.step ⟨some 169,none,.load none (.tmp 168)⟩ (.step ⟨some 170,none,.bin .sub (.tmp 162) (.tmp 169)⟩ (.step ⟨some 171,none,.bin .geq (.tmp 170) (.const (.int .i64 2160))⟩ (.step ⟨none,none,.store 1 (.tmp 3) (.tmp 171)⟩ .nil))))))))) (.step ⟨none,none,.store 1 (.tmp 2) (.tmp 160)⟩ (.step ⟨some 165,none,.load none (.tmp 10)⟩ (.step ⟨some 166,none,.bin .sub (.tmp 165) (.const (.int .i64 1))⟩ (.step ⟨some 167,none,.iaddr (.tmp 164) (.tmp 166) 2⟩ (.step ⟨some 168,none,.faddr (.tmp 167) 0⟩ (.step ⟨some 169,none,.load none (.tmp 168)⟩ (.step ⟨some 170,none,.bin .sub (.tmp 162) (.tmp 169)⟩ (.step ⟨some 171,none,.bin .geq (.tmp 170) (.const (.int .i64 2160))⟩ (.step ⟨none,none,.store 1 (.tmp 3) (.tmp 171)⟩ .nil)))))))))) (.alt ⟨some 165,none,.load none (.tmp 10)⟩ (.step ⟨some 166,none,.bin .sub (.tmp 165) (.const (.int .i64 1))⟩ (.step ⟨some 167,none,.iaddr (.tmp 164) (.tmp 166) 2⟩ (.step ⟨some 168,none,.faddr (.tmp 167) 0⟩ (.alt ⟨some 162,none,.load none (.tmp 161)⟩ (.alt ⟨some 169,none,.load none (.tmp 168)⟩ (.step ⟨some 170,none,.bin .sub (.tmp 162) (.tmp 169)⟩ (.step ⟨some 171,none,.bin .geq (.tmp 170) (.const (.int .i64 2160))⟩ (.step ⟨none,none,.store 1 (.tmp 2) (.tmp 160)⟩ (.step ⟨none,none,.store 1 (.tmp 3) (.tmp 171)⟩ .nil)))) (.step ⟨none,none,.store 1 (.tmp 2) (.tmp 160)⟩ (.step ⟨some 169,none,.load none (.tmp 168)⟩ (.step ⟨some 170,none,.bin .sub (.tmp 162) (.tmp 169)⟩ (.step ⟨some 171,none,.bin .geq (.tmp 170) (.const (.int .i64 2160))⟩ (.step ⟨none,none,.store 1 (.tmp 3) (.tmp 171)⟩ .nil)))))) (.alt ⟨some 169,none,.load none (.tmp 168)⟩ (.alt ⟨some 162,none,.load none (.tmp 161)⟩ (.step ⟨some 170,none,.bin .sub (.tmp 162) (.tmp 169)⟩ (.step ⟨some 171,none,.bin .geq (.tmp 170) (.const (.int .i64 2160))⟩ (.step ⟨none,none,.store 1 (.tmp 2) (.tmp 160)⟩ (.step ⟨none,none,.store 1 (.tmp 3) (.tmp 171)⟩ .nil)))) (.step ⟨none,none,.store 1 (.tmp 2) (.tmp 160)⟩ (.step ⟨some 162,none,.load none (.tmp 161)⟩ (.step ⟨some 170,none,.bin .sub (.tmp 162) (.tmp 169)⟩ (.step ⟨some 171,none,.bin .geq (.tmp 170) (.const (.int .i64 2160))⟩ (.step ⟨none,none,.store 1 (.tmp 3) (.tmp 171)⟩ .nil)))))) (.step ⟨none,none,.store 1 (.tmp 2) (.tmp 160)⟩ (.step ⟨some 162,none,.load none (.tmp 161)⟩ (.step ⟨some 169,none,.load none (.tmp 168)⟩ (.step ⟨some 170,none,.bin .sub (.tmp 162) (.tmp 169)⟩ (.step ⟨some 171,none,.bin .geq (.tmp 170) (.const (.int .i64 2160))⟩ (.step ⟨none,none,.store 1 (.tmp 3) (.tmp 171)⟩ .nil))))))))))) (.step ⟨none,none,.store 1 (.tmp 2) (.tmp 160)⟩ (.step ⟨some 162,none,.load none (.tmp 161)⟩ (.step ⟨some 165,none,.load none (.tmp 10)⟩ (.step ⟨some 166,none,.bin .sub (.tmp 165) (.const (.int .i64 1))⟩ (.step ⟨some 167,none,.iaddr (.tmp 164) (.tmp 166) 2⟩ (.step ⟨some 168,none,.faddr (.tmp 167) 0⟩ (.step ⟨some 169,none,.load none (.tmp 168)⟩ (.step ⟨some 170,none,.bin .sub (.tmp 162) (.tmp 169)⟩ (.step ⟨some 171,none,.bin .geq (.tmp 170) (.const (.int .i64 2160))⟩ (.step ⟨none,none,.store 1 (.tmp 3) (.tmp 171)⟩ .nil)))))))))))) (.alt ⟨some 165,none,.load none (.tmp 10)⟩ (.step ⟨some 166,none,.bin .sub (.tmp 165) (.const (.int .i64 1))⟩ (.alt ⟨some 162,none,.load none (.tmp 161)⟩ (.alt ⟨some 164,none,.load none (.tmp 163)⟩ (.step ⟨some 167,none,.iaddr (.tmp 164) (.tmp 166) 2⟩ (.step ⟨some 168,none,.faddr (.tmp 167) 0⟩ (.alt ⟨some 169,none,.load none (.tmp 168)⟩ (.step ⟨some 170,none,.bin .sub (.tmp 162) (.tmp 169)⟩ (.step ⟨some 171,none,.bin .geq (.tmp 170) (.const (.int .i64 2160))⟩ (.step ⟨none,none,.store 1 (.tmp 2) (.tmp 160)⟩ (.step ⟨none,none,.store 1 (.tmp 3) (.tmp 171)⟩ .nil)))) (.step ⟨none,none,.store 1 (.tmp 2) (.tmp 160)⟩ (.step ⟨some 169,none,.load none (.tmp 168)⟩ (.step ⟨some 170,none,.bin .sub (.tmp 162) (.tmp 169)⟩ (.step ⟨some 171,none,.bin .geq (.tmp 170) (.const (.int .i64 2160))⟩ (.step ⟨none,none,.store 1 (.tmp 3) (.tmp 171)⟩ .nil)))))))) (.step ⟨none,none,.store 1 (.tmp 2) (.tmp 160)⟩ (.step ⟨some 164,none,.load none (.tmp 163)⟩ (.step ⟨some 167,none,.iaddr (.tmp 164) (.tmp 166) 2⟩ (.step ⟨some 168,none,.faddr (.tmp 167) 0⟩ (.step ⟨some 169,none,.load none (.tmp 168)⟩ (.step ⟨some 170,none,.bin .sub (.tmp 162) (.tmp 169)⟩ (.step ⟨some 171,none,.bin .geq (.tmp 170) (.const (.int .i64 2160))⟩ (.step ⟨none,none,.store 1 (.tmp 3) (.tmp 171)⟩ .nil))))))))) (.alt ⟨some 164,none,.load none (.tmp 163)⟩ (.step ⟨some 167,none,.iaddr (.tmp 164) (.tmp 166) 2⟩ (.step ⟨some 168,none,.faddr (.tmp 167) 0⟩ (.alt ⟨some 162,none,.load none (.tmp 161)⟩ (.alt ⟨some 169,none,.load none (.tmp 168)⟩ (.step ⟨some 170,none,.bin .sub (.tmp 162) (.tmp 169)⟩ (.step ⟨some 171,none,.bin .geq (.tmp 170) (.const (.int .i64 2160))⟩ (.step ⟨none,none,.store 1 (.tmp 2) (.tmp 160)⟩ (.step ⟨none,none,.store 1 (.tmp 3) (.tmp 171)⟩ .nil)))) (.step ⟨none,none,.store 1 (.tmp 2) (.tmp 160)⟩ (.step ⟨some 169,none,.load none (.tmp 168)⟩ (.step ⟨some 170,none,.bin .sub (.tmp 162) (.tmp 169)⟩ (.step ⟨some 171,none,.bin .geq (.tmp 170) (.const (.int .i64 2160))⟩ (.step ⟨none,none,.store 1 (.tmp 3) (.tmp 171)⟩ .nil)))))) (.alt ⟨some 169,none,.load none (.tmp 168)⟩ (.alt ⟨some 162,none,.load none (.tmp 161)⟩ (.step ⟨some 170,none,.bin .sub (.tmp 162) (.tmp 169)⟩ (.step ⟨some 171,none,.bin .geq (.tmp 170) (.const (.int .i64 2160))⟩ (.step ⟨none,none,.store 1 (.tmp 2) (.tmp 160)⟩ (.step ⟨none,none,.store 1 (.tmp 3) (.tmp 171)⟩ .nil)))) (.step ⟨none,none,.store 1 (.tmp 2) (.tmp 160)⟩ (.step ⟨some 162,none,.load none (.tmp 161)⟩ (.step ⟨some 170,none,.bin .sub (.tmp 162) (.tmp 169)⟩ (.step ⟨some 171,none,.bin .geq (.tmp 170) (.const (.int .i64 2160))⟩ (.step ⟨none,none,.store 1 (.tmp 3) (.tmp 171)⟩ .nil)))))) (.step ⟨none,none,.store 1 (.tmp 2) (.tmp 160)⟩ (.step ⟨some 162,none,.load none (.tmp 161)⟩ (.step ⟨some 169,none,.load none (.tmp 168)⟩ (.step ⟨some 170,none,.bin .sub (.tmp 162) (.tmp 169)⟩ (.step ⟨some 171,none,.bin .geq (.tmp 170) (.const (.int .i64 2160))⟩ (.step ⟨none,none,.store 1 (.tmp 3) (.tmp 171)⟩ .nil)))))))))) (.step ⟨none,none,.store 1 (.tmp 2) (.tmp 160)⟩ (.step ⟨some 162,none,.load none (.tmp 161)⟩ (.step ⟨some 164,none,.load none (.tmp 163)⟩ (.step ⟨some 167,none,.iaddr (.tmp 164) (.tmp 166) 2⟩ (.step ⟨some 168,none,.faddr (.tmp 167) 0⟩ (.step ⟨some 169,none,.load none (.tmp 168)⟩ (.step ⟨some 170,none,.bin .sub (.tmp 162) (.tmp 169)⟩ (.step ⟨some 171,none,.bin .geq (.tmp 170) (.const (.int .i64 2160))⟩ (.step ⟨none,none,.store 1 (.tmp 3) (.tmp 171)⟩ .nil)))))))))))) (.step ⟨none,none,.store 1 (.tmp 2) (.tmp 160)⟩ (.step ⟨some 162,none,.load none (.tmp 161)⟩ (.step ⟨some 164,none,.load none (.tmp 163)⟩ (.step ⟨some 165,none,.load none (.tmp 10)⟩ (.step ⟨some 166,none,.bin .sub (.tmp 165) (.const (.int .i64 1))⟩ (.step ⟨some 167,none,.iaddr (.tmp 164) (.tmp 166) 2⟩ (.step ⟨some 168,none,.faddr (.tmp 167) 0⟩ (.step ⟨some 169,none,.load none (.tmp 168)⟩ (.step ⟨some 170,none,.bin .sub (.tmp 162) (.tmp 169)⟩ (.step ⟨some 171,none,.bin .geq (.tmp 170) (.const (.int .i64 2160))⟩ (.step ⟨none,none,.store 1 (.tmp 3) (.tmp 171)⟩ .nil)))))))))))))))))) .ret))
set_option maxRecDepth 100000 in
theorem b72_B:comp Tryz.prog 173 b72B=some v72B:=by kernel_rfl
def TailK(n:Zn)(L:List Tr)(ad:Addr)(R9:RO)(s:St):Prop:=s.blk[1]?=some (.box [.val (.pointer (some ad))])∧s.blk[2]?=some (.box [.val (.bool true)])∧RO.le R9 s.R
theorem zjB{n:Zn}{L:List Tr}(hy:zg0 n L)(hn:L≠[]){t:Int}(ht : -2251799813685248≤t∧t≤2251799813685248)(hv:n.cal.valid) : -4503599627370496≤nextT (ckOf n L).ys (ckOf n L).cycle t∧nextT (ckOf n L).ys (ckOf n L).cycle t≤4503599627370496:=by
 obtain⟨r0,r1,he,h0,h1,hp,hF⟩:=hy.resolve_left (fun h=>hn h.2)
 have hdb:=hv.days_bd
 have hpp:=hv.per.2.1
 have hcb:=zdM (c:=n.cal) (by omega)
 have hb:∀x∈L,-10000000000≤x.pos∧x.pos≤10000000000:=fun x hx=>zfu hv h0 h1 x (hp.mem_iff.1 hx)
 have hpos:0<L.length:=List.length_pos_iff.2 hn
 have hf:=hb L[0] (List.getElem_mem _)
 rw[ze1 hpos] at hf
 show -4503599627370496≤nextT L (if n.yearly=[] then 1 else cycD n.cal) t∧nextT L (if n.yearly=[] then 1 else cycD n.cal) t≤4503599627370496
 rw[if_neg (by rw[he];simp)]
 have hB:0≤zaA L (cycD n.cal) t*(cycD n.cal*1440)∧zaA L (cycD n.cal) t*(cycD n.cal*1440)≤2251799813685248+10000000000:=by
  refine⟨Int.mul_nonneg (zdr hcb.1) (by omega),?_⟩
  rcases Int.le_total (fstP L) t with h|h
  ·have:=zhF (L:=L) (t:=t) hcb.1 h;omega
  ·rw[zdO h];simp
 unfold nextT
 split
 ·rename_i x hx
  have:=hb x (List.mem_of_find?_eq_some hx)
  omega
 ·rw[Int.add_mul,Int.one_mul]
  omega
set_option maxHeartbeats 4000000 in
theorem zlU(n:Zn)(L:List Tr)(R9:RO)(ad:Addr)(ta:Option Addr)(tc:Nat)(ma:Option Addr)(mc:Nat)(ra:Option Addr)(rln rc:Nat)(ya:Option Addr)(yc:Nat)(htr:TrV R9 (.slice ta n.trans.length tc) n.trans)(ht0:n.trans≠[])(P o:Int)
  (hP : -4503599627370496≤P∧P≤4503599627370496) (htb:∀x∈n.trans,-2251799813685248≤x.pos∧x.pos≤2251799813685248) (hfar:∀x,n.trans.getLast?=some x→2160≤P-x.pos) (env:Nat→SV)
  (e11:env 11 = .loc 7 0) (e1:env 1 = .loc 0 0) (e2:env 2 = .loc 1 0) (e3:env 3 = .loc 2 0) (e8:env 8 = .loc 3 0) (e10:env 10 = .loc 4 0) :
  CodeT ⟨Tryz.prog,8⟩ v72B ⟨env,[.box [.val (.int .i64 n.cal.epoch),.val (.slice ma n.cal.months.length mc),.val (.int .i64 n.cal.leap),.val (.slice ra rln rc),.val (.int .i64 n.start),.val (.slice ta n.trans.length tc),.val (.int .i64 n.hor),.val (.slice ya n.yearly.length yc)],.box [.val (.pointer none)],.box [.val (.bool false)],.box [.val (.pointer (some ad))],.box [.val (.int .i64 n.trans.length)],.box [.val (.pointer (some ad))],.dead,.box [.val (.int .i64 P),.val (.int .i64 o)]],R9⟩ (fun _=>False) (fun _ _=>False) (TailK n L ad R9) .mk .mk .mk:=by
 have hpos:0<n.trans.length:=List.length_pos_iff.2 ht0
 obtain⟨at',ct',et,hct,htf⟩:=htr.form
 simp only[Value.slice.injEq,true_and] at et
 obtain⟨rfl,rfl⟩:=et
 obtain⟨adp,hadp,hRp⟩:=htf (n.trans.length-1) (by omega)
 have hll:=htr.2
 have hlast:=hfar n.trans[n.trans.length-1] (by rw[List.getLast?_eq_getElem?,List.getElem?_eq_getElem (by omega)])
 have hlb:=htb n.trans[n.trans.length-1] (List.getElem_mem _)
 have hld:=hRp 0 (.int .i64 n.trans[n.trans.length-1].pos) rfl
 rw[Addr.add_zero'] at hld
 obtain⟨q,hq⟩:∃q,q=n.trans[n.trans.length-1].pos:=⟨_,rfl⟩
 rw[←hq] at hlast hlb hld
 have hge2:2160≤P-q:=by omega
 have hidx:((n.trans.length:Int)-1).toNat=n.trans.length-1:=by omega
 unfold v72B
 simp only[go_sem,↓reduceIte,Qa,e11,e1,e2,e8,e10]
 repeat' (first
  |(with_reducible refine And.intro ?_ ?_)
  |(refine⟨_,W.in64 (by omega),?_⟩)
  |(rw[hidx];refine vat adp hadp ?_;try simp only[go_sem,↓reduceIte,Qa,e2])
  |(refine vload (.int .i64 q) hld ?_;try simp only[go_sem,↓reduceIte,Qa,e2,e3])
  |exact⟨rfl,congrArg some (congrArg (fun b=>Blk.box [.val (.bool b)]) (decide_eq_true hge2)),RO.le_refl _⟩
  |omega)
set_option maxHeartbeats 4000000 in
theorem zlV(n:Zn)(L:List Tr)(R:RO)(ho:ZnOK n L)(hck:CkOK (ckOf n L))(X:Ctx)(w0:World)(hX:X={ w0:=w0,R0:=R,B:=R,n:=173 })(Q Q7:Exit→Act→World→Prop)
  (hQ:Q=bodyPostM (Fr none) 0 Tryz.prog Tryz.f72 (fun e w'=>∃v R',e = .returned v∧RO.le R R'∧(∀a v,R' a v→w'.cell? a=some v∧(R a v∨(w0.heap.size≤a.block∧Loose w' a.block)))∧Ext w0 w'∧PostO n L R' v))
  (hQ7:Exit.then (fun a' w'=>(cR b72R).wpIn (Fr none) 0 Tryz.prog Q a' w') Q=Q7) (R9:RO) (hle:RO.le R R9) (ad:Addr) (ta:Option Addr) (tc:Nat) (ya2:Option Addr) (yc2:Nat) (hCk:CkV R9 ad (ckOf n L) ta tc ya2 yc2) (env:Nat→SV)
  (ma:Option Addr) (mc:Nat) (ra:Option Addr) (rln rc:Nat) (ya:Option Addr) (yc:Nat) (htr:TrV R9 (.slice ta n.trans.length tc) n.trans) (ht0:n.trans≠[])
  (e1:env 1 = .loc 0 0) (e2:env 2 = .loc 1 0) (e3:env 3 = .loc 2 0) (e8:env 8 = .loc 3 0) (e10:env 10 = .loc 4 0) (e158:env 158 = .fn 161 [.l 5 0,.l 6 0]) :
  SemI Tryz.prog none 0 X [] (cR (cL b72C)) ⟨env,[.box [.val (.int .i64 n.cal.epoch),.val (.slice ma n.cal.months.length mc),.val (.int .i64 n.cal.leap),.val (.slice ra rln rc),.val (.int .i64 n.start),.val (.slice ta n.trans.length tc),.val (.int .i64 n.hor),.val (.slice ya n.yearly.length yc)],.box [.val (.pointer none)],.box [.val (.bool false)],.box [.val (.pointer (some ad))],.box [.val (.int .i64 n.trans.length)],.box [.val (.pointer (some ad))],.box [.val (.int .i64 n.hor)]],R9⟩ Q7:=by
 have hXn:X.n=173:=by rw[hX]
 have hXk:X.keep=[]:=by rw[hX]
 rw[zrp]
 intro β κ tm w hr
 have hXw:X.w0.heap.size≤w.heap.size:=hr.below.size
 obtain⟨_,_,T5,h5⟩:=hr.blk 5 _ rfl
 obtain⟨_,_,T6,h6⟩:=hr.blk 6 _ rfl
 have hl5:β 5<w.heap.size:=(Array.getElem?_eq_some_iff.1 h5).1
 have hl6:β 6<w.heap.size:=(Array.getElem?_eq_some_iff.1 h6).1
 have hne:β 5≠β 6:=fun e=>by have:=hr.inj 5 6 _ _ rfl rfl rfl rfl e;cases this
 have h158:(⟨tm,[]⟩:Act).eval (.tmp 158) = .func (.func 161) #[] #[.pointer (some ⟨β 5,0,none⟩),.pointer (some ⟨β 6,0,none⟩)]:=(hr.eval [] (.tmp 158)).trans (by show den β κ (env 158)=_;rw[e158];rfl)
 refine wpIn_block (wpIn_rangeFunc ?_)
 intro fnid _
 obtain⟨rec,hrec⟩:∃rec:LoopState→Option Code→Loop,rec=fun st pe=>{ state:=st,pending:=pe,fn:=fnid,tmps:=tm,params := #[159],assign:=b72A,body:=b72B,defers:=w.heap.size }:=⟨_,rfl⟩
 obtain⟨W1,hW1⟩:∃W1,(w.alloc (.deferred (some []))).alloc (.loop (rec .ready none))=W1:=⟨_,rfl⟩
 have hext:Ext w W1:=by rw[←hW1];exact(zao w _).tr (zao _ _)
 have hs1:W1.heap.size=w.heap.size+2:=by rw[←hW1];simp
 have hL1:W1.heap[w.heap.size+1]?=some (.loop (rec .ready none)):=by
  rw[←hW1];have:=World.alloc_heap_new (w.alloc (.deferred (some []))) (.loop (rec .ready none));rwa [World.size_alloc] at this
 have hD1:W1.heap[w.heap.size]?=some (.deferred (some [])):=by
  rw[←hW1];exact((zao (w.alloc (.deferred (some []))) (.loop (rec .ready none))).block _ (by simp)).trans (World.alloc_heap_new w _)
 have hr1:=hr.ext hext
 refine⟨w.heap.size+1,[{ target := .collected w.heap.size,args := #[] }],W1,{ target := .fn (.func 161) #[.pointer (some ⟨β 5,0,none⟩),.pointer (some ⟨β 6,0,none⟩)],args := #[.func (.yield (w.heap.size+1)) #[] #[]] },W1,161,
  #[.func (.yield (w.heap.size+1)) #[] #[]] ++ #[.pointer (some ⟨β 5,0,none⟩),.pointer (some ⟨β 6,0,none⟩)],W1,?_,?_,fun _ _=>trivial,?_,fun h=>(by cases h),?_⟩
 ·rw[←hW1,hrec];exact run_enterLoop_outer _ _ _ _ _
 ·simp only[resolve,h158]
  simp[go_sem]
 ·have eg:=enters_of Tryz.func161 (by kernel_rfl) rfl
  simp[invoke,go_sem]
 have hnext:∀x,n.trans.getLast?=some x→L≠[]→2160≤nextT (ckOf n L).ys (ckOf n L).cycle n.hor-x.pos:=fun x hx hn=>by
  obtain⟨r0,r1,he,_⟩:=ho.years.resolve_left (fun h=>hn h.2)
  show 2160≤nextT L (if n.yearly=[] then 1 else cycD n.cal) n.hor-x.pos
  rw[if_neg (by rw[he];simp)]
  exact ho.next hn x hx
 -- what the iterator is told
 have hlt:∀x∈(ckOf n L).trans,x.pos<n.hor:=fun x hx=>(ho.tr x hx).2.2
 have hcy:(ckOf n L).cycle≤1836800:=by
  have hdb:=ho.cal.days_bd
  have hpp:=ho.cal.per.2.1
  have hcb:=zdM (c:=n.cal) (by omega)
  show(if n.yearly=[] then(1:Int) else cycD n.cal)≤1836800
  split<;>omega
 obtain⟨Rf,hRf⟩:∃Rf:RO,Rf=fun a v=>R9 a v∨(a=⟨β 5,0,none⟩∧v = .pointer (some ad)):=⟨_,rfl⟩
 have hleF:RO.le R9 Rf:=fun a v h=>by rw[hRf];exact .inl h
 have hRF:∀a v,Rf a v→W1.cell? a=some v∧a.block≠β 6:=fun a v h=>by
  rw[hRf] at h
  rcases h with h|⟨rfl,rfl⟩
  ·obtain⟨g1,_,g3⟩:=hr.ro a v h
   exact⟨by rw[hext.cell (block_lt_of_cell g1)];exact g1,g3 6 _ rfl rfl⟩
  ·exact⟨by rw[hext.cell (p:=⟨β 5,0,none⟩) hl5];exact hr.boxCell (j:=5) (o:=0) rfl rfl,hne⟩
 have hB1:W1.heap[β 6]?=some (.cells #[.int .i64 n.hor] T6 (0,0)):=(hext.block _ hl6).trans h6
 obtain⟨Jx,hJx⟩:∃Jx:World→Prop,Jx=fun W'=>W'.heap[w.heap.size+1]?=some (.loop (rec .done (some .ret)))∧W'.heap[w.heap.size]?=some (.deferred (some [])) ∧
   ∃β' κ' s' tm',Rel X β' κ' s' tm' W'∧7≤s'.blk.length∧(∀i,i<7→β' i=β i∧κ' i=κ i)∧TailK n L ad R9 s':=⟨_,rfl⟩
 refine CallsIn.mono (zrl (ckOf n L) hck ad ta tc ya2 yc2 Rf (hCk.mono hleF) n.hor rfl hlt hcy (β 5) (β 6) T6 (by rw[hRf];exact .inr ⟨rfl,rfl⟩) W1 hRF hB1 (0-1) (w.heap.size+1) Jx ?_) ?_
 ·intro hyn W2 o hk2
  change L≠[] at hyn
  have hL2:W2.heap[w.heap.size+1]?=some (.loop (rec .ready none)):=(hk2.block _ (by omega) (by omega)).trans hL1
  have hD2:W2.heap[w.heap.size]?=some (.deferred (some [])):=(hk2.block _ (by omega) (by omega)).trans hD1
  have hg2:Grown W1 W2 (some (β 6)):=⟨hk2.os,hk2.tape,hk2.output,hk2.size,fun k hk hne=>hk2.block k hk (fun e=>hne (by rw[e])),hk2.drawn⟩
  have hr2:=hr1.modify (j:=6) rfl rfl hg2 .dead (by simp) (by simp) trivial
  have hr3:=hr2.put (some 159) (fun t e=>by cases e;rw[hXn];decide) (.val (.agg #[.int .i64 (nextT (ckOf n L).ys (ckOf n L).cycle n.hor),.int .i64 o])) rfl
  refine⟨fnid,_,b72A,b72B,run_yield hL2 (by rw[hrec];rfl) |>.trans (by rw[hrec]),?_⟩
  have hfold:((rec .ready none).params.zip #[Value.agg #[.int .i64 (nextT (ckOf n L).ys (ckOf n L).cycle n.hor),.int .i64 o]]).foldl (fun tmps (t,a)=>tmps.setIfInBounds t a) (rec .ready none).tmps=tm.setIfInBounds 159 (.agg #[.int .i64 (nextT (ckOf n L).ys (ckOf n L).cycle n.hor),.int .i64 o]):=by
   rw[hrec];simp
  rw[hrec] at hfold
  rw[hfold]
  obtain⟨P,hP⟩:∃P,P=nextT (ckOf n L).ys (ckOf n L).cycle n.hor:=⟨_,rfl⟩
  rw[←hP] at hr3 ⊢
  refine roundIn_of_wpIn trivial ?_
  -- the loop's variable
  have hv3:CodeT ⟨Tryz.prog,7⟩ v72A (St.put ⟨env,[.box [.val (.int .i64 n.cal.epoch),.val (.slice ma n.cal.months.length mc),.val (.int .i64 n.cal.leap),.val (.slice ra rln rc),.val (.int .i64 n.start),.val (.slice ta n.trans.length tc),.val (.int .i64 n.hor),.val (.slice ya n.yearly.length yc)],.box [.val (.pointer none)],.box [.val (.bool false)],.box [.val (.pointer (some ad))],.box [.val (.int .i64 n.trans.length)],.box [.val (.pointer (some ad))],.dead],R9⟩ (some 159) (.val (.agg #[.int .i64 P,.int .i64 o])))
    (fun s'=>∃env',s'=⟨env',[.box [.val (.int .i64 n.cal.epoch),.val (.slice ma n.cal.months.length mc),.val (.int .i64 n.cal.leap),.val (.slice ra rln rc),.val (.int .i64 n.start),.val (.slice ta n.trans.length tc),.val (.int .i64 n.hor),.val (.slice ya n.yearly.length yc)],.box [.val (.pointer none)],.box [.val (.bool false)],.box [.val (.pointer (some ad))],.box [.val (.int .i64 n.trans.length)],.box [.val (.pointer (some ad))],.dead,.box [.val (.int .i64 P),.val (.int .i64 o)]],R9⟩∧env' 11 = .loc 7 0∧env' 1 = .loc 0 0∧env' 2 = .loc 1 0∧env' 3 = .loc 2 0∧env' 8 = .loc 3 0∧env' 10 = .loc 4 0) (fun _ _=>False) (fun _=>False) .mk .mk .mk:=by
   simp only[v72A]
   simp only[go_sem,↓reduceIte,Qa,Qb,St.put]
   refine⟨_,rfl,?_,?_,?_,?_,?_,?_⟩<;>simp only[go_sem,↓reduceIte,Qa,e1,e2,e3,e8,e10]
  have hsh3:=hr3.sharp (by rfl)
  refine wpIn_mono (zbM (fr:=some (w.heap.size+1)) (fn:=0-1-1) (ds:=[]) mix b72A _ v72A rfl (by exact hXn▸b72_A) β κ _ _ W2 _ _ _ hsh3 hv3) ?_
  intro e a3 W3 hq
  cases e with
  |normal =>
   obtain⟨β3,κ3,s3,tm3,rfl,hrel3,env',rfl,f11,f1,f2,f3,f8,f10⟩:=hq
   have hL3:W3.heap[w.heap.size+1]?=some (.loop (rec .ready none)):=(hrel3.below.block _ (Array.getElem?_eq_some_iff.1 hL2).1 (hr3.notG hL2 rfl rfl)).trans hL2
   have hD3:W3.heap[w.heap.size]?=some (.deferred (some [])):=(hrel3.below.block _ (Array.getElem?_eq_some_iff.1 hD2).1 (hr3.notG hD2 rfl rfl)).trans hD2
   have hb3:=hr3.back hXk hrel3
   have hpos3:=hrel3.pos
   refine⟨_,run_beginRound hL3 (by rw[hrec]),?_⟩
   have hr4:=hb3.still (zcK (.loop { rec .ready none with state := .busy }) (by omega) hL3 rfl rfl)
   have hL4:(W3.putObj (w.heap.size+1) (.loop { rec .ready none with state := .busy })).heap[w.heap.size+1]?=some (.loop { rec .ready none with state := .busy }):=World.putObj_heap_same (Array.getElem?_eq_some_iff.1 hL3).1
   have hD4:(W3.putObj (w.heap.size+1) (.loop { rec .ready none with state := .busy })).heap[w.heap.size]?=some (.deferred (some [])):=(World.putObj_heap_other (by omega)).trans hD3
   generalize W3.putObj (w.heap.size+1) (.loop { rec .ready none with state := .busy })=W4 at hr4 hL4 hD4 ⊢
   have hPb:=zjB ho.years hyn (t:=n.hor) ho.hor ho.cal
   have hlen3:8≤[Blk.box [.val (.int .i64 n.cal.epoch),.val (.slice ma n.cal.months.length mc),.val (.int .i64 n.cal.leap),.val (.slice ra rln rc),.val (.int .i64 n.start),.val (.slice ta n.trans.length tc),.val (.int .i64 n.hor),.val (.slice ya n.yearly.length yc)],.box [.val (.pointer none)],.box [.val (.bool false)],.box [.val (.pointer (some ad))],.box [.val (.int .i64 n.trans.length)],.box [.val (.pointer (some ad))],.dead,.box [.val (.int .i64 P),.val (.int .i64 o)]].length:=by simp
   have hvB:=zlU n L R9 ad ta tc ma mc ra rln rc ya yc htr ht0 P o (by rw[hP];exact hPb) (fun x hx=>(ho.tr x hx).2.1) (fun x hx=>by rw[hP];exact hnext x hx hyn) env' f11 f1 f2 f3 f8 f10
   have hsh4:=hr4.sharp (by rfl)
   refine wpIn_mono (zbM (fr:=some (w.heap.size+1)) (fn:=0-1-1) (ds:=[]) mix b72B _ v72B rfl (by exact hXn▸b72_B) β3 κ3 _ _ W4 _ _ _ hsh4 hvB) ?_
   intro e a5 W5 hq
   cases e with
   |ret =>
    obtain⟨β5,κ5,s5,tm5,rfl,hrel5,hK⟩:=hq
    have hL5:W5.heap[w.heap.size+1]?=some (.loop { rec .ready none with state := .busy }):=(hrel5.below.block _ (Array.getElem?_eq_some_iff.1 hL4).1 (hr4.notG hL4 rfl rfl)).trans hL4
    have hD5:W5.heap[w.heap.size]?=some (.deferred (some [])):=(hrel5.below.block _ (Array.getElem?_eq_some_iff.1 hD4).1 (hr4.notG hD4 rfl rfl)).trans hD4
    have hb5:=hr4.back hXk hrel5
    have hpos5:=hrel5.pos
    have hlen5:=hrel5.len
    refine⟨_,_,run_endRound (some .ret) hL5,rfl,?_⟩
    rw[hJx]
    refine⟨?_,(World.putObj_heap_other (by omega)).trans hD5,β5,κ5,s5,tm5,hb5.still (zcK _ (by omega) hL5 rfl rfl),?_,fun i hi=>?_,hK⟩
    ·rw[World.putObj_heap_same (Array.getElem?_eq_some_iff.1 hL5).1,hrec]
     rfl
    ·exact Nat.le_trans (by decide) (Nat.le_trans hlen3 hlen5)
    ·obtain⟨g1,g2⟩:=hpos3 i hi
     obtain⟨g3,g4⟩:=hpos5 i (Nat.lt_of_lt_of_le (Nat.lt_trans hi (by decide)) hlen3)
     exact⟨g3.trans g1,g4.trans g2⟩
   |normal=>obtain⟨_,_,_,_,_,_,hf⟩:=hq;exact hf.elim
   |exit i=>obtain⟨_,_,_,_,_,_,hf⟩:=hq;exact hf.elim
   |_=>exact hq.elim
  |exit i=>obtain⟨_,_,_,_,_,_,hf⟩:=hq;exact hf.elim
  |ret=>obtain⟨_,_,_,_,_,_,hf⟩:=hq;exact hf.elim
  |_=>exact hq.elim
 ·rintro e W' ⟨⟨v,rfl⟩,hA|hJ⟩
  ·obtain⟨hy0,hk2⟩:=hA
   have hL2:W'.heap[w.heap.size+1]?=some (.loop (rec .ready none)):=(hk2.block _ (by omega) (by omega)).trans hL1
   have hD2:W'.heap[w.heap.size]?=some (.deferred (some [])):=(hk2.block _ (by omega) (by omega)).trans hD1
   have hg2:Grown W1 W' (some (β 6)):=⟨hk2.os,hk2.tape,hk2.output,hk2.size,fun k hk hne=>hk2.block k hk (fun e=>hne (by rw[e])),hk2.drawn⟩
   have hr2:=hr1.modify (j:=6) rfl rfl hg2 .dead (by simp) (by simp) trivial
   refine⟨_,_,run_endLoop hL2 (by rw[hrec];simp),?_⟩
   have hr4:=hr2.still (zcK (.loop { rec .ready none with state := .exhausted }) (by omega) hL2 rfl rfl)
   have hD4:(W'.putObj (w.heap.size+1) (.loop { rec .ready none with state := .exhausted })).heap[w.heap.size]?=some (.deferred (some [])):=(World.putObj_heap_other (by omega)).trans hD2
   generalize W'.putObj (w.heap.size+1) (.loop { rec .ready none with state := .exhausted })=W4 at hr4 hD4 ⊢
   rw[show(rec .ready none).pending=none by rw[hrec]]
   show Q7 .normal _ W4
   rw[←hQ7]
   show(cR b72R).wpIn (Fr none) 0 Tryz.prog Q ⟨tm,[{ target := .collected w.heap.size,args := #[] }]⟩ W4
   have hv8:CodeT ⟨Tryz.prog,7⟩ (vR v72R) ⟨env,[.box [.val (.int .i64 n.cal.epoch),.val (.slice ma n.cal.months.length mc),.val (.int .i64 n.cal.leap),.val (.slice ra rln rc),.val (.int .i64 n.start),.val (.slice ta n.trans.length tc),.val (.int .i64 n.hor),.val (.slice ya n.yearly.length yc)],.box [.val (.pointer none)],.box [.val (.bool false)],.box [.val (.pointer (some ad))],.box [.val (.int .i64 n.trans.length)],.box [.val (.pointer (some ad))],.dead],R9⟩ (fun _=>False) (fun _ _=>False) (fun s'=>(s'.env 2 = .loc 1 0∧s'.env 3 = .loc 2 0)∧TailK n L ad R9 s') .mk .mk .mk:=by
    unfold v72R
    simp only[go_sem,↓reduceIte,Qa,vR,vc72,e2,e3,e8]
    exact⟨rfl,rfl,RO.le_refl _⟩
   have hsh4:=hr4.sharp (by rfl)
   refine wpIn_mono (zbM (fr:=none) (fn:=0) (ds:=[{ target := .collected w.heap.size,args := #[] }]) mix (cR b72R) _ (vR v72R) rfl (by exact hXn▸b72_8) β κ _ _ W4 _ _ _ hsh4 hv8) ?_
   intro e a5 W5 hq
   cases e with
   |ret =>
    obtain⟨β5,κ5,s5,tm5,rfl,hrel5,⟨q2,q3⟩,hK1,hK2,hK3⟩:=hq
    have hD5:W5.heap[w.heap.size]?=some (.deferred (some [])):=(hrel5.below.block _ (Array.getElem?_eq_some_iff.1 hD4).1 (hr4.notG hD4 rfl rfl)).trans hD4
    have hb5:=hr4.back hXk hrel5
    rw[hQ]
    refine⟨by simp,.inl ⟨_,_,rfl,run_takeDeferred hD5,?_⟩⟩
    have hr5:=hb5.still (zcK (.deferred none) (by omega) hD5 rfl rfl)
    refine zji (rs:=rs72) (Post:=PostO n L) hX (by kernel_rfl) hr5 ?_
    show RetT rs72 _ (fun vs s'=>PostO n L s'.R (zbT vs)) .mk
    obtain⟨env5,blk5,R5⟩:=s5
    dsimp only at q2 q3 hK1 hK2 hK3
    simp only[go_sem,Qb,rs72,q2,q3,hK1,hK2]
    exact⟨ad,ta,tc,ya2,yc2,rfl,hCk.mono hK3⟩
   |normal=>obtain⟨_,_,_,_,_,_,hf⟩:=hq;exact hf.elim
   |exit i=>obtain⟨_,_,_,_,_,_,hf⟩:=hq;exact hf.elim
   |_=>exact hq.elim
  ·rw[hJx] at hJ
   obtain⟨hL3,hD3,β',κ',s',tm',hrel,hlen,hpos,hK1,hK2,hK3⟩:=hJ
   refine⟨_,_,run_endLoop hL3 (by rw[hrec];simp),?_⟩
   have hr4:=hrel.still (zcK (.loop { rec .done (some .ret) with state := .exhausted }) (by omega) hL3 rfl rfl)
   have hD4:(W'.putObj (w.heap.size+1) (.loop { rec .done (some .ret) with state := .exhausted })).heap[w.heap.size]?=some (.deferred (some [])):=(World.putObj_heap_other (by omega)).trans hD3
   generalize W'.putObj (w.heap.size+1) (.loop { rec .done (some .ret) with state := .exhausted })=W4 at hr4 hD4 ⊢
   rw[show(rec .done (some .ret)).pending=some .ret by rw[hrec]]
   show(Code.ret).wpIn (Fr none) 0 Tryz.prog _ _ W4
   refine wpIn_ret ?_
   show Q7 .ret _ W4
   rw[←hQ7]
   show Q .ret ⟨tm,[{ target := .collected w.heap.size,args := #[] }]⟩ W4
   rw[hQ]
   refine⟨by simp,.inl ⟨_,_,rfl,run_takeDeferred hD4,?_⟩⟩
   have hr5:=hr4.still (zcK (.deferred none) (by omega) hD4 rfl rfl)
   have hr6:=hr.slots hr5 hlen hpos
   refine zji (rs:=rs72) (Post:=PostO n L) hX (by kernel_rfl) hr6 ?_
   show RetT rs72 _ (fun vs s'=>PostO n L s'.R (zbT vs)) .mk
   simp only[go_sem,Qb,rs72,e2,e3,hK1,hK2]
   exact⟨ad,ta,tc,ya2,yc2,rfl,hCk.mono hK3⟩
set_option maxHeartbeats 4000000 in
theorem zOpen(z:Zv)(n:Zn)(L:List Tr)(R0:RO)(h:ZnIn R0 z n)(ho:ZnOK n L):OpenC R0 z (ckOf n L):=by
 intro R hleR
 replace h:=h.mono hleR
 clear hleR
 have hyl:=h.yearly.slen
 have htl:=h.trans.slen
 have hep:=h.ep
 have hlp:=h.leap
 have hyr:=h.yearly
 have hcal:=h.cal
 have htr:=h.trans
 have hst:=h.start
 have hho:=h.hor
 have hVal:=fun R' (hle:RO.le R R')=>zjx n.cal _ _ R' (h.cal.mono hle)
 have hTick:=fun R' (hle:RO.le R R')=>zTick z n R' (h.mono hle) ho.cal L ho.years
 have hck:=ho.ck
 obtain⟨ep,ma,mn,mc,lp,ra,rln,rc,st,ta,tn,tc,hz,ya,yn,yc⟩:=z
 dsimp only at hyl hep hlp hyr hVal htr htl hst hho hcal hTick
 subst hep hlp hst hho htl hyl
 simp only[Zv.cells,cv] at hVal hTick ⊢
 have hstb:=ho.start
 have hhob:=ho.hor
 have htlb:=ho.tlen
 rw[decide_eq_true ho.cal] at hVal
 obtain⟨am,cm,em,_,_⟩:=hcal.m.form
 simp only[Value.slice.injEq] at em
 obtain⟨rfl,rfl,rfl⟩:=em
 refine(show zaa Tryz.prog 72 _ R (PostO n L) from ?_)
 intro w0 hRw
 refine(callsIn_wide (n:=0)).1 (callsIn_of_wp_marks (F:=Fr none) (c:=b72) Tryz.func72 rfl trivial ?_ rfl)
 obtain⟨Q,hQ⟩:∃Q,Q=bodyPostM (Fr none) 0 Tryz.prog Tryz.f72 (fun e w'=>∃v R',e = .returned v∧RO.le R R'∧(∀a v,R' a v→w'.cell? a=some v∧(R a v∨(w0.heap.size≤a.block∧Loose w' a.block)))∧Ext w0 w'∧PostO n L R' v):=⟨_,rfl⟩
 rw[←hQ]
 have hstR:=zlf (n:=173) (args:=[.agg #[.int .i64 n.cal.epoch,.slice ma n.cal.months.length mc,.int .i64 n.cal.leap,.slice ra rln rc,.int .i64 n.start,.slice ta n.trans.length tc,.int .i64 n.hor,.slice ya n.yearly.length yc]]) (by simp) hRw
 obtain⟨X,hX⟩:∃X:Ctx,X={ w0:=w0,R0:=R,B:=R,n:=173 }:=⟨_,rfl⟩
 rw[←hX] at hstR
 have hXn:X.n=173:=by rw[hX]
 have hXk:X.keep=[]:=by rw[hX]
 have hXg:X.ng=0:=by rw[hX]
 suffices hS:SemI Tryz.prog none 0 X [] b72 ⟨envOf [.agg #[.int .i64 n.cal.epoch,.slice ma n.cal.months.length mc,.int .i64 n.cal.leap,.slice ra rln rc,.int .i64 n.start,.slice ta n.trans.length tc,.int .i64 n.hor,.slice ya n.yearly.length yc]],[],R⟩ Q by
  exact hS _ _ _ _ hstR
 show SemI Tryz.prog none 0 X [] (.seq (cL b72) (.seq (cL (cR b72)) (.seq (cL (cR (cR b72))) (.seq (cL (cR (cR (cR b72)))) (.seq (cL (cR (cR (cR (cR b72))))) (.seq (cL (cR (cR (cR (cR (cR b72)))))) (.seq (cL (cR (cR (cR (cR (cR (cR b72))))))) b72R))))))) _ Q
 refine zaZ mix hXk (by rw[hXn];exact b72_0) ?_
 rw[hXg]
 simp only[go_sem,Qb,vL,vc72]
 refine zaZ mix hXk (by rw[hXn];exact b72_1) ?_
 rw[hXg]
 simp only[go_sem,↓reduceIte,Qa,Qb,vL,vR,vc72]
 have hnl:¬ ((512:Int)<n.trans.length):=by omega
 try simp only[go_sem,hnl]
 refine vcall (hVal R (RO.le_refl R)) ?_
 rintro R1 r hle1 rfl
 try simp only[go_sem,↓reduceIte,Qa,hnl]
 refine vcall (zep n.start 1080 R1 (by omega)) ?_
 rintro R2 r hle2 rfl
 rw[decide_eq_true (by omega : -1080≤n.start∧n.start≤1080)]
 try simp only[go_sem,↓reduceIte,Qa]
 refine vcall (zep n.hor 2251799813685248 R2 (by omega)) ?_
 rintro R3 r hle3 rfl
 rw[decide_eq_true (by omega : -2251799813685248≤n.hor∧n.hor≤2251799813685248)]
 try simp only[go_sem,↓reduceIte,Qa]
 refine zaZ mix hXk (by rw[hXn];exact b72_2) ?_
 rw[hXg]
 simp only[go_sem,↓reduceIte,Qa,vL,vR,vc72]
 have hle03:RO.le R R3:=RO.le_trans hle1 (RO.le_trans hle2 hle3)
 obtain⟨at',ct',et,_,htf⟩:=htr.form
 simp only[Value.slice.injEq,true_and] at et
 obtain⟨rfl,rfl⟩:=et
 obtain⟨ay',cy',ey,_,hyf⟩:=hyr.form
 simp only[Value.slice.injEq,true_and] at ey
 obtain⟨rfl,rfl⟩:=ey
 refine zaj Nat (fun i=>[(37,.val (.int .i64 i)),(35,.val (.slice ta n.trans.length tc)),(36,.val (.int .i64 n.trans.length)),(1,.loc 0 0),(2,.loc 1 0),(3,.loc 2 0)])
  (fun _=>[.box [.val (.int .i64 n.cal.epoch),.val (.slice ma n.cal.months.length mc),.val (.int .i64 n.cal.leap),.val (.slice ra rln rc),.val (.int .i64 n.start),.val (.slice ta n.trans.length tc),.val (.int .i64 n.hor),.val (.slice ya n.yearly.length yc)],.box [.val (.pointer none)],.box [.val (.bool false)]]) (fun i _=>i≤n.trans.length) (fun i=>n.trans.length-i) 0 ?_ ?_ ?_ ?_
 ·(try simp only[go_sem,↓reduceIte,Qa,Qb])<;>(repeat' (first|rfl|trivial|constructor|(intro h;exact absurd rfl h)))
 ·rfl
 ·exact Nat.zero_le _
 rintro i env R4 hle4 hE hi
 (simp only[go_sem] at hE;obtain⟨e37,e35,e36,e1,e2,e3⟩:=hE;simp only[go_sem,↓reduceIte,Qa,Qb,e37,e35,e36];dsimp only at *)
 have hle04:RO.le R R4:=RO.le_trans hle03 hle4
 refine⟨fun hi1=>?_,fun hi1=>?_⟩
 ·have hi':i<n.trans.length:=by omega
  obtain⟨adx,had,hRx⟩:=htf i hi'
  obtain⟨hx1,hx2,hx3⟩:=ho.tr n.trans[i] (List.getElem_mem _)
  refine⟨by omega,vat adx had ?_⟩
  try simp only[go_sem,↓reduceIte]
  refine zaf n.trans[i].cells rfl (fun j u hj=>hle04 _ _ (hRx j u hj)) ?_
  simp only[go_sem,↓reduceIte,Qa,Qb,Tr.cells]
  refine vcall (zep n.trans[i].off 1080 R4 (by omega)) ?_
  rintro R5 r hle5 rfl
  rw[decide_eq_true hx1]
  try simp only[go_sem,↓reduceIte,Qa]
  refine vcall (zep n.trans[i].pos 2251799813685248 R5 (by omega)) ?_
  rintro R6 r hle6 rfl
  rw[decide_eq_true hx2]
  try simp only[go_sem,↓reduceIte,Qa,Qb,Qe,Qf,e37,e35,e36,e1,e2,e3,show ¬ (n.hor≤n.trans[i].pos) by omega]
  by_cases h0:i=0
  ·subst h0
   try simp only[go_sem,Qc]
   refine⟨fun h=>absurd h (by omega),fun _=>⟨_,W.in64 (by omega),1,by omega,by norm_cast,by omega⟩⟩
  ·have hgt:((0:Int)<i):=by omega
   have hgap:=ho.gap (i-1) (by omega)
   simp only[Nat.sub_add_cancel (by omega:1≤i)] at hgap
   obtain⟨hy1,hy2,hy3⟩:=ho.tr n.trans[i-1] (List.getElem_mem _)
   try simp only[go_sem,hgt]
   obtain⟨adp,hadp,hRp⟩:=htf (i-1) (by omega)
   refine⟨_,W.in64 (by omega),by omega,by omega,?_⟩
   rw[show((i:Int)-1).toNat=i-1 by omega]
   refine vat adp hadp ?_
   try simp only[go_sem,↓reduceIte,Qa]
   refine vload (.int .i64 n.trans[i-1].pos) (by have:=hle6 _ _ (hle5 _ _ (hle04 _ _ (hRp 0 _ rfl)));rwa [Addr.add_zero'] at this) ?_
   try simp only[go_sem,↓reduceIte,Qa,Qb,Qe,Qf,e37,e35,e36,e1,e2,e3,hgt]
   refine⟨_,W.in64 (by omega),?_⟩
   try simp only[go_sem,show ¬ (n.trans[i].pos-n.trans[i-1].pos<2160) by omega]
   exact⟨_,W.in64 (by omega),i+1,by omega,by norm_cast,by omega⟩
 have hyl02:n.yearly.length=0∨n.yearly.length=2:=by
  rcases ho.years with⟨e,_⟩|⟨r0,r1,e,_⟩
  ·left;rw[e];rfl
  ·right;rw[e];rfl
 have hyall:∀r∈n.yearly,YrOK n.cal r:=fun r hm=>by
  rcases ho.years with⟨e,_⟩|⟨r0,r1,e,k0,k1,_⟩
  ·rw[e] at hm;simp at hm
  ·rw[e] at hm
   simp only[List.mem_cons,List.not_mem_nil,or_false] at hm
   rcases hm with hm|hm
   ·rw[hm];exact k0
   ·rw[hm];exact k1
 refine zaZ mix hXk (by rw[hXn];exact b72_3) ?_
 rw[hXg]
 refine cutT (fun s'=>∃env,s'=⟨env,[.box [.val (.int .i64 n.cal.epoch),.val (.slice ma n.cal.months.length mc),.val (.int .i64 n.cal.leap),.val (.slice ra rln rc),.val (.int .i64 n.start),.val (.slice ta n.trans.length tc),.val (.int .i64 n.hor),.val (.slice ya n.yearly.length yc)],.box [.val (.pointer none)],.box [.val (.bool false)]],R4⟩∧env 1 = .loc 0 0∧env 2 = .loc 1 0∧env 3 = .loc 2 0) ?_ ?_
 ·rcases hyl02 with hyy|hyy
  ·have hyi:((n.yearly.length:Nat):Int)=0:=by omega
   simp only[go_sem,↓reduceIte,Qa,vL,vR,vc72,e1,hyi]
   refine⟨_,rfl,?_,?_,?_⟩<;>simp only[go_sem,↓reduceIte,Qa,e1,e2,e3]
  ·have hyi:((n.yearly.length:Nat):Int)=2:=by omega
   simp only[go_sem,↓reduceIte,Qa,vL,vR,vc72,e1,hyi]
   try simp only[go_sem,Je]
   refine⟨_,rfl,?_,?_,?_⟩<;>simp only[go_sem,↓reduceIte,Qa,e1,e2,e3]
 rintro s' ⟨env',rfl,f1,f2,f3⟩
 refine zaZ mix hXk (by rw[hXn];exact b72_4) ?_
 rw[hXg]
 simp only[go_sem,↓reduceIte,vL,vR,vc72,f1]
 refine zaj Nat (fun i=>[(90,.val (.int .i64 i)),(88,.val (.slice ya n.yearly.length yc)),(89,.val (.int .i64 n.yearly.length)),(1,.loc 0 0),(2,.loc 1 0),(3,.loc 2 0)])
  (fun _=>[.box [.val (.int .i64 n.cal.epoch),.val (.slice ma n.cal.months.length mc),.val (.int .i64 n.cal.leap),.val (.slice ra rln rc),.val (.int .i64 n.start),.val (.slice ta n.trans.length tc),.val (.int .i64 n.hor),.val (.slice ya n.yearly.length yc)],.box [.val (.pointer none)],.box [.val (.bool false)]]) (fun i _=>i≤n.yearly.length) (fun i=>n.yearly.length-i) 0 ?_ ?_ ?_ ?_
 ·try simp only[go_sem,↓reduceIte,Qa,Qb,f1,f2,f3]
  first|trivial|rfl
 ·rfl
 ·exact Nat.zero_le _
 rintro q env2 R7 hle7 hE hq
 (simp only[go_sem] at hE;obtain⟨e90,e88,e89,g1,g2,g3⟩:=hE;simp only[go_sem,↓reduceIte,Qa,Qb,e90,e88,e89];dsimp only at *)
 have hle07:RO.le R R7:=RO.le_trans hle04 hle7
 refine⟨fun hq1=>?_,fun hq1=>?_⟩
 ·have hq':q<n.yearly.length:=by omega
  obtain⟨adx,had,hRx⟩:=hyf q hq'
  have hOK:=hyall n.yearly[q] (List.getElem_mem _)
  obtain⟨r,hr⟩:∃r,r=n.yearly[q]:=⟨_,rfl⟩
  rw[←hr] at hOK hRx
  obtain⟨k1,k2,k3,k4,k5⟩:=hOK
  refine⟨by omega,vat adx had ?_⟩
  try simp only[go_sem,↓reduceIte]
  refine zaf r.cells rfl (fun j u hj=>hle07 _ _ (hRx j u hj)) ?_
  simp only[go_sem,↓reduceIte,Qa,Qb,Yr.cells]
  refine vcall (zep r.off 1080 R7 (by omega)) ?_
  rintro R8 rr hle8 rfl
  rw[decide_eq_true k5]
  try simp only[go_sem,↓reduceIte,Qa,Qb,Qe,Qf,e90,e88,e89,g1,g2,g3,show ¬ r.month<1 by omega,show ¬ ((n.cal.months.length:Int)<r.month) by omega,show ¬ r.week<1 by omega,show ¬ 5<r.week by omega,show ¬ r.wday<0 by omega,show ¬ 6<r.wday by omega,show ¬ r.minute<0 by omega,show ¬ 1440≤r.minute by omega]
  exact⟨_,W.in64 (by omega),q+1,by omega,by norm_cast,by omega⟩
 refine zaZ mix hXk (by rw[hXn];exact b72_5) ?_
 rw[hXg]
 simp only[go_sem,↓reduceIte,Qa,Qb,vL,vR,vc72,g1]
 refine vcall (hTick R7 hle07) ?_
 rintro R8 rr hle8 ⟨ad,ya2,yc2,rfl,hCk⟩
 try simp only[go_sem,↓reduceIte,Qa,Qb]
 refine zaZ mix hXk (by rw[hXn];exact b72_6) ?_
 rw[hXg]
 simp only[go_sem,↓reduceIte,vL,vR,vc72]
 have hle08:RO.le R R8:=RO.le_trans hle07 hle8
 by_cases ht0:n.trans=[]
 ·have hti:((n.trans.length:Nat):Int)=0:=by rw[ht0];rfl
  refine zjU mix hXk (by rw[hXn];exact b72_R) ?_
  rw[hXg]
  simp only[go_sem,↓reduceIte,Qa,Qb,v72R,vR,vc72,g1,g2,g3,hti]
  try simp only[go_sem,Jb]
  intro β κ tm w hr
  rw[hQ]
  refine zji (rs:=rs72) (Post:=PostO n L) hX (by kernel_rfl) hr ?_
  show RetT rs72 _ (fun vs s'=>PostO n L s'.R (zbT vs)) .mk
  simp only[go_sem,↓reduceIte,Qa,Qb,rs72,g2,g3]
  exact⟨ad,ta,tc,ya2,yc2,rfl,hCk⟩
 have hti:¬ (((n.trans.length:Nat):Int)=0):=fun e=>ht0 (List.eq_nil_of_length_eq_zero (by omega))
 have htp:(0:Int)<((n.trans.length:Nat):Int):=by omega
 show SemI Tryz.prog none 0 X [] (.seq (.seq (cL (cL b72R)) (.seq (cL (cR (cL b72R))) (.cond (.tmp 154) (.seq (cL (cL b72C)) (cR (cL b72C))) .skip))) (cR b72R)) _ Q
 refine ze4 ?_
 generalize hQ7:Exit.then _ Q=Q7
 refine zaZ mix hXk (by rw[hXn];exact zrm) ?_
 rw[hXg]
 simp only[go_sem,↓reduceIte,Qa,Qb,v72R,vL,vR,vc72,g1]
 refine zaZ mix hXk (by rw[hXn];exact zrn) ?_
 rw[hXg]
 simp only[go_sem,↓reduceIte,v72R,vL,vR,vc72,htp]
 refine zpe (t:=true) (by simp only[go_sem,↓reduceIte]) (fun _=>?_) (fun e=>by cases e)
 refine zaZ mix hXk (by rw[hXn];exact zro) ?_
 rw[hXg]
 simp only[go_sem,↓reduceIte,Qa,v72C,v72R,vL,vR,vc72,g1]
 refine zpH (zFrom ad n.hor R8) rfl ?_
 rintro R9 bs rr hle9 ⟨rfl,rfl,rfl⟩
 simp only[go_sem,Qb,ren,renC,renB,Vc.rn,List.range']
 suffices hT:∀env:Nat→SV,env 1 = .loc 0 0→env 2 = .loc 1 0→env 3 = .loc 2 0→env 8 = .loc 3 0→env 10 = .loc 4 0→env 158 = .fn 161 [.l 5 0,.l 6 0] →
   SemI Tryz.prog none 0 X [] (cR (cL b72C)) ⟨env,[.box [.val (.int .i64 n.cal.epoch),.val (.slice ma n.cal.months.length mc),.val (.int .i64 n.cal.leap),.val (.slice ra rln rc),.val (.int .i64 n.start),.val (.slice ta n.trans.length tc),.val (.int .i64 n.hor),.val (.slice ya n.yearly.length yc)],.box [.val (.pointer none)],.box [.val (.bool false)],.box [.val (.pointer (some ad))],.box [.val (.int .i64 n.trans.length)],.box [.val (.pointer (some ad))],.box [.val (.int .i64 n.hor)]],R9⟩ Q7 by
  refine hT _ ?_ ?_ ?_ ?_ ?_ ?_<;>simp only[go_sem,↓reduceIte,Qa,g1,g2,g3]
 intro env3 p1 p2 p3 p8 p10 p158
 exact zlV n L R ho hck X w0 hX Q Q7 hQ hQ7 R9 hle08 ad ta tc ya2 yc2 hCk env3 ma mc ra rln rc ya yc (htr.mono hle08) ht0 p1 p2 p3 p8 p10 p158
end Go.Proofs.YtdgndfabdmecmaaGreat
namespace Go.Proofs.YtdgndfabdmecmaaGreat
open Go.Proofs.YtdgndfabdmecmaaGreat.Vc
structure ZnPre (n:Zn):Prop where
 cal:n.cal.valid
 start : -1080≤n.start∧n.start≤1080
 hor : -2251799813685248≤n.hor∧n.hor≤2251799813685248
 tlen:n.trans.length≤512
 tr:∀x∈n.trans,(-1080≤x.off∧x.off≤1080)∧(-2251799813685248≤x.pos∧x.pos≤2251799813685248)∧x.pos<n.hor
 gap:∀i (h:i+1<n.trans.length),2160≤n.trans[i+1].pos-n.trans[i].pos
 years:n.yearly=[]∨∃r0 r1,n.yearly=[r0,r1]∧(YrOK n.cal r0∧(r0.week=1∨r0.week=5))∧(YrOK n.cal r1∧(r1.week=1∨r1.week=5))
theorem ZnPre.ok0{n:Zn}(h:ZnPre n)(hy:n.yearly=[]):ZnOK n []:=⟨h.cal,h.start,h.hor,h.tlen,h.tr,h.gap,.inl ⟨hy,rfl⟩,fun hn=>absurd rfl hn⟩
theorem zdc(n l:Int)(R:RO)(hl:0≤l∧l≤9223372036854775807):zaa Tryz.prog 51 [.int .i64 n,.int .i64 l] R fun _ r=>r = .bool (decide (-l≤n∧n≤l)):=by
 refine zac mix Tryz.func51 comp51 (by simp[Tryz.ntmps51]) ?_;simp only[go_sem,↓reduceIte,Qa,reduceCtorEq,vc51,rs51]
 refine⟨_,W.in64 (by omega),fun h=>?_,fun h=>?_⟩
 ·congr 1;exact decide_eq_decide.2 (by omega)
 ·congr 1;exact(decide_eq_false (by omega)).symm
set_option maxHeartbeats 4000000 in
theorem zjC(z:Zv)(n:Zn)(R:RO)(h:ZnIn R z n)(hp:ZnPre n):zaa Tryz.prog 24 [.agg z.cells.toArray] R fun _ v=>∃e,v = .int .i64 e∧(e=0→∃L,ZnOK n L):=by
 have hyl:=h.yearly.slen
 have htl:=h.trans.slen
 have hep:=h.ep
 have hlp:=h.leap
 have hyr:=h.yearly
 have hcal:=h.cal
 have htr:=h.trans
 have hst:=h.start
 have hho:=h.hor
 have hVal:=fun R' (hle:RO.le R R')=>zhA n.cal _ _ R' (h.cal.mono hle)
 have hYea:=fun R' (hle:RO.le R R')=>zp5 z n R' (h.mono hle) hp.cal hp.years
 have hCyc:=fun R' (hle:RO.le R R')=>zjz z n R' (h.mono hle) hp.cal
 obtain⟨ep,ma,mn,mc,lp,ra,rln,rc,st,ta,tn,tc,hz,ya,yn,yc⟩:=z
 dsimp only at hyl hep hlp hyr hVal htr htl hst hho hcal hYea hCyc
 subst hep hlp hst hho htl hyl
 simp only[Zv.cells,cv] at hVal hYea hCyc ⊢
 have hstb:=hp.start
 have hhob:=hp.hor
 have htlb:=hp.tlen
 rw[decide_eq_true hp.cal] at hVal
 obtain⟨am,cm,em,_,_⟩:=hcal.m.form
 simp only[Value.slice.injEq] at em
 obtain⟨rfl,rfl,rfl⟩:=em
 have hyl02:((n.yearly.length:Nat):Int)=0∨((n.yearly.length:Nat):Int)=2:=by
  rcases hp.years with e|⟨r0,r1,e,_⟩
  ·left;rw[e];rfl
  ·right;rw[e];rfl
 have hyall:∀r∈n.yearly,YrOK n.cal r:=fun r hm=>by
  rcases hp.years with e|⟨r0,r1,e,k0,k1⟩
  ·rw[e] at hm;simp at hm
  ·rw[e] at hm
   simp only[List.mem_cons,List.not_mem_nil,or_false] at hm
   rcases hm with hm|hm
   ·rw[hm];exact k0.1
   ·rw[hm];exact k1.1
 obtain⟨at',ct',et,_,htf⟩:=htr.form
 simp only[Value.slice.injEq,true_and] at et
 obtain⟨rfl,rfl⟩:=et
 obtain⟨ay',cy',ey,_,hyf⟩:=hyr.form
 simp only[Value.slice.injEq,true_and] at ey
 obtain⟨rfl,rfl⟩:=ey
 have hnl:¬ ((512:Int)<n.trans.length):=by omega
 refine zac mix Tryz.func24 comp24 (by simp[Tryz.ntmps24]) ?_;simp only[go_sem,↓reduceIte,Qa,Qb,vc24,rs24]
 try simp only[go_sem,hnl]
 refine vcall (hVal R (RO.le_refl R)) ?_
 rintro R1 r hle1 rfl
 try simp only[go_sem,↓reduceIte,Qa,hnl]
 refine vcall (zdc n.start 1080 R1 (by omega)) ?_
 rintro R2 r hle2 rfl
 rw[decide_eq_true (by omega : -1080≤n.start∧n.start≤1080)]
 try simp only[go_sem,↓reduceIte,Qa]
 refine vcall (zdc n.hor 2251799813685248 R2 (by omega)) ?_
 rintro R3 r hle3 rfl
 rw[decide_eq_true (by omega : -2251799813685248≤n.hor∧n.hor≤2251799813685248)]
 try simp only[go_sem,↓reduceIte,Qa]
 have hle03:RO.le R R3:=RO.le_trans hle1 (RO.le_trans hle2 hle3)
 refine⟨fun h0=>⟨fun h2=>absurd (hyl02.resolve_left h0) h2,fun _=>?_⟩,fun _=>?_⟩
 all_goals
  refine zaj Nat (fun i=>[(3,.val (.int .i64 i)),(1,.loc 0 0)])
   (fun _=>[.box [.val (.int .i64 n.cal.epoch),.val (.slice ma n.cal.months.length mc),.val (.int .i64 n.cal.leap),.val (.slice ra rln rc),.val (.int .i64 n.start),.val (.slice ta n.trans.length tc),.val (.int .i64 n.hor),.val (.slice ya n.yearly.length yc)]]) (fun i _=>i≤n.trans.length) (fun i=>n.trans.length-i) 0 ?_ ?_ ?_ ?_
  ·(try simp only[go_sem,↓reduceIte,Qa])<;>(repeat' (first|rfl|trivial|constructor|(intro h;exact absurd rfl h)))
  ·rfl
  ·exact Nat.zero_le _
  rintro i env R4 hle4 hE hi
  (simp only[go_sem] at hE;obtain⟨e3,e1⟩:=hE;simp only[go_sem,↓reduceIte,Qa,Qb,e3,e1];dsimp only at *)
  have hle04:RO.le R R4:=RO.le_trans hle03 hle4
  refine⟨fun hi1=>?_,fun hi1=>?_⟩
  ·have hi':i<n.trans.length:=by omega
   obtain⟨adx,had,hRx⟩:=htf i hi'
   obtain⟨hx1,hx2,hx3⟩:=hp.tr n.trans[i] (List.getElem_mem _)
   refine⟨by omega,vat adx had ?_⟩
   try simp only[go_sem,↓reduceIte]
   refine zaf n.trans[i].cells rfl (fun j u hj=>hle04 _ _ (hRx j u hj)) ?_
   simp only[go_sem,↓reduceIte,Qa,Qb,Tr.cells]
   refine vcall (zdc n.trans[i].off 1080 R4 (by omega)) ?_
   rintro R5 r hle5 rfl
   rw[decide_eq_true hx1]
   try simp only[go_sem,↓reduceIte,Qa]
   refine vcall (zdc n.trans[i].pos 2251799813685248 R5 (by omega)) ?_
   rintro R6 r hle6 rfl
   rw[decide_eq_true hx2]
   try simp only[go_sem,↓reduceIte,Qa,Qe,Qf,e3,e1,show ¬ (n.hor≤n.trans[i].pos) by omega]
   by_cases h0:i=0
   ·subst h0
    try simp only[go_sem,Qc]
    refine⟨fun h=>absurd h (by omega),fun _=>⟨_,W.in64 (by omega),1,by omega,by norm_cast,by omega⟩⟩
   ·have hgt:((0:Int)<i):=by omega
    have hgap:=hp.gap (i-1) (by omega)
    simp only[Nat.sub_add_cancel (by omega:1≤i)] at hgap
    obtain⟨hy1,hy2,hy3⟩:=hp.tr n.trans[i-1] (List.getElem_mem _)
    try simp only[go_sem,hgt]
    obtain⟨adp,hadp,hRp⟩:=htf (i-1) (by omega)
    refine⟨_,W.in64 (by omega),by omega,by omega,?_⟩
    rw[show((i:Int)-1).toNat=i-1 by omega]
    refine vat adp hadp ?_
    try simp only[go_sem,↓reduceIte,Qa]
    refine vload (.int .i64 n.trans[i-1].pos) (by have:=hle6 _ _ (hle5 _ _ (hle04 _ _ (hRp 0 _ rfl)));rwa [Addr.add_zero'] at this) ?_
    try simp only[go_sem,↓reduceIte,Qa,Qe,Qf,e3,e1,hgt]
    refine⟨_,W.in64 (by omega),?_⟩
    try simp only[go_sem,show ¬ (n.trans[i].pos-n.trans[i-1].pos<2160) by omega]
    exact⟨_,W.in64 (by omega),i+1,by omega,by norm_cast,by omega⟩
  refine zaj Nat (fun i=>[(5,.val (.int .i64 i)),(1,.loc 0 0)])
   (fun _=>[.box [.val (.int .i64 n.cal.epoch),.val (.slice ma n.cal.months.length mc),.val (.int .i64 n.cal.leap),.val (.slice ra rln rc),.val (.int .i64 n.start),.val (.slice ta n.trans.length tc),.val (.int .i64 n.hor),.val (.slice ya n.yearly.length yc)]]) (fun i _=>i≤n.yearly.length) (fun i=>n.yearly.length-i) 0 ?_ ?_ ?_ ?_
  ·try simp only[go_sem,↓reduceIte,Qa,e1]
   first|trivial|rfl
  ·rfl
  ·exact Nat.zero_le _
  rintro q env2 R7 hle7 hE hq
  (simp only[go_sem] at hE;obtain⟨e5,g1⟩:=hE;simp only[go_sem,↓reduceIte,Qa,Qb,e5,g1];dsimp only at *)
  have hle07:RO.le R R7:=RO.le_trans hle04 hle7
  refine⟨fun hq1=>?_,fun hq1=>?_⟩
  ·have hq':q<n.yearly.length:=by omega
   obtain⟨adx,had,hRx⟩:=hyf q hq'
   have hOK:=hyall n.yearly[q] (List.getElem_mem _)
   obtain⟨r,hr⟩:∃r,r=n.yearly[q]:=⟨_,rfl⟩
   rw[←hr] at hOK hRx
   obtain⟨k1,k2,k3,k4,k5⟩:=hOK
   refine⟨by omega,vat adx had ?_⟩
   try simp only[go_sem,↓reduceIte]
   refine zaf r.cells rfl (fun j u hj=>hle07 _ _ (hRx j u hj)) ?_
   simp only[go_sem,↓reduceIte,Qa,Qb,Yr.cells]
   refine vcall (zdc r.off 1080 R7 (by omega)) ?_
   rintro R8 rr hle8 rfl
   rw[decide_eq_true k5]
   try simp only[go_sem,↓reduceIte,Qa,Qe,Qf,e5,g1,show ¬ r.month<1 by omega,show ¬ ((n.cal.months.length:Int)<r.month) by omega,show ¬ r.week<1 by omega,show ¬ 5<r.week by omega,show ¬ r.wday<0 by omega,show ¬ 6<r.wday by omega,show ¬ r.minute<0 by omega,show ¬ 1439<r.minute by omega]
   exact⟨_,W.in64 (by omega),q+1,by omega,by norm_cast,by omega⟩
  refine vcall (hYea R7 hle07) ?_
  rintro R8 v hle8 hYv
  have hle08:RO.le R R8:=RO.le_trans hle07 hle8
  have hdb:=hp.cal.days_bd
  have hpp:=hp.cal.per.2.1
  have hcb:=zdM (c:=n.cal) (by omega)
  rcases hp.years with hy0|⟨r0,r1,hy2,⟨k0,_⟩,⟨k1,_⟩⟩
  ·have hYv':∃u,v = .tuple #[u,.bool true]∧TrV R8 u []:=by
    unfold zjA at hYv
    rw[hy0] at hYv
    exact hYv
   obtain⟨u,rfl,hu⟩:=hYv'
   obtain⟨ua,uc,rfl,_,_⟩:=hu.form
   try simp only[go_sem,↓reduceIte,Qa,Qb,g1]
   refine vcall (hCyc R8 hle08) ?_
   rintro R9 r hle9 rfl
   rw[if_pos hy0]
   try simp only[go_sem,↓reduceIte,Qa]
   refine vcall (zpq [] _ R9 (hu.mono hle9) 1 n.hor (by omega) (by omega) (by simp)) ?_
   rintro R10 r hle10 (⟨_,rfl⟩|⟨hne,_⟩)
   ·try simp only[go_sem,↓reduceIte,Qa,Qb]
    exact⟨0,rfl,fun _=>⟨[],hp.ok0 hy0⟩⟩
   ·exact absurd rfl hne
  ·have hYv':∃L u,v = .tuple #[u,.bool (decide (Far L (cycD n.cal)))]∧TrV R8 u L∧L.Perm (unsT n.cal r0 r1)∧Sor L:=by
    unfold zjA at hYv
    rw[hy2] at hYv
    exact hYv
   obtain⟨L,u,rfl,hu,hLp,hLs⟩:=hYv'
   have hLb:∀x∈L,-2251799813685248≤x.pos∧x.pos≤2251799813685248:=fun x hx=>by have:=zfu hp.cal k0 k1 x (hLp.mem_iff.1 hx);omega
   obtain⟨ua,uc,rfl,_,_⟩:=hu.form
   by_cases hF:Far L (cycD n.cal)
   ·rw[decide_eq_true hF]
    have hYO:zg0 n L := .inr ⟨r0,r1,hy2,k0,k1,hLp,hF⟩
    try simp only[go_sem,↓reduceIte,Qa,Qb,g1]
    refine vcall (hCyc R8 hle08) ?_
    rintro R9 r hle9 rfl
    rw[if_neg (by rw[hy2];simp)]
    try simp only[go_sem,↓reduceIte,Qa]
    refine vcall (zpq L _ R9 (hu.mono hle9) (cycD n.cal) n.hor (by omega) (by omega) hLb) ?_
    rintro R10 r hle10 (⟨hL0,rfl⟩|⟨hLn,o,rfl⟩)
    ·try simp only[go_sem,↓reduceIte,Qa,Qb]
     exact⟨0,rfl,fun _=>⟨L,hp.cal,hp.start,hp.hor,hp.tlen,hp.tr,hp.gap,hYO,fun hn=>absurd hL0 hn⟩⟩
    ·have hPb:=zjB hYO hLn (t:=n.hor) hp.hor hp.cal
     change -4503599627370496≤nextT L (if n.yearly=[] then 1 else cycD n.cal) n.hor∧nextT L (if n.yearly=[] then 1 else cycD n.cal) n.hor≤4503599627370496 at hPb
     rw[if_neg (by rw[hy2];simp)] at hPb
     try simp only[go_sem,↓reduceIte,Qa,Qb,g1]
     refine⟨fun htp=>?_,fun htp=>?_⟩
     ·have hpos:0<n.trans.length:=by omega
      obtain⟨adp,hadp,hRp⟩:=htf (n.trans.length-1) (by omega)
      have hla:n.trans.getLast?=some n.trans[n.trans.length-1]:=by rw[List.getLast?_eq_getElem?,List.getElem?_eq_getElem (by omega)]
      have hlb:=(hp.tr n.trans[n.trans.length-1] (List.getElem_mem _)).2.1
      refine⟨_,W.in64 (by omega),by omega,by omega,?_⟩
      rw[show((n.trans.length:Int)-1).toNat=n.trans.length-1 by omega]
      refine vat adp hadp ?_
      try simp only[go_sem,↓reduceIte,Qa]
      refine vload (.int .i64 n.trans[n.trans.length-1].pos) (by have:=hle10 _ _ (hle9 _ _ (hle08 _ _ (hRp 0 _ rfl)));rwa [Addr.add_zero'] at this) ?_
      try simp only[go_sem,↓reduceIte,Qa]
      refine⟨_,W.in64 (by omega),fun hlt=>⟨1,rfl,fun e=>by cases e⟩,fun hge=>⟨0,rfl,fun _=>⟨L,hp.cal,hp.start,hp.hor,hp.tlen,hp.tr,hp.gap,hYO,fun _ x hx=>?_⟩⟩⟩
      rw[hla] at hx
      cases hx
      omega
     ·have ht0:n.trans=[]:=List.eq_nil_of_length_eq_zero (by omega)
      exact⟨0,rfl,fun _=>⟨L,hp.cal,hp.start,hp.hor,hp.tlen,hp.tr,hp.gap,hYO,fun _ x hx=>by rw[ht0] at hx;cases hx⟩⟩
   ·rw[decide_eq_false hF]
    try simp only[go_sem,↓reduceIte,Qa]
    exact⟨1,rfl,fun e=>by cases e⟩
theorem zg1(n:Int)(hn:0≤n∧n≤255)(R:RO):zaa Tryz.prog 23 [.int .u8 n] R fun _ v=>∃o,v = .int .i64 o ∧ -1080≤o∧o≤1080:=by
 refine zac mix Tryz.func23 comp23 (by simp[Tryz.ntmps23]) ?_;simp only[go_sem,↓reduceIte,Qa,Qb,Qd,reduceCtorEq,vc23,rs23]
 have h8:n.tmod 8=0∨n.tmod 8=1∨n.tmod 8=2∨n.tmod 8=3∨n.tmod 8=4∨n.tmod 8=5∨n.tmod 8=6∨n.tmod 8=7:=by
  rw[Int.tmod_eq_emod_of_nonneg hn.1]
  omega
 refine⟨by decide,by omega,by omega,?_⟩
 rcases h8 with h|h|h|h|h|h|h|h<;>rw[h]<;>exact⟨_,rfl,_,rfl,by omega,by omega⟩
structure Rw where
 st:Int
 gaps:List Int
 offs:List Int
 beh:Int
 y0:Int
 y1:Int
 y2:Int
 y3:Int
 y4:Int
 y5:Int
 y6:Int
 y7:Int
 cal:Int
 rules:Bool
def U8s(R:RO)(v:Value)(l:List Int):Prop:=∃a cap,v = .slice a l.length cap∧l.length≤cap∧∀i (hi:i<l.length),∃ad,a=some ad∧∀j u,([Value.int .u8 l[i]]:List Value)[j]?=some u→R ((ad.add (i*1)).add j) u
theorem U8s.form{R:RO}{v:Value}{l:List Int}(h:U8s R v l):∃a cap,v = .slice a l.length cap∧l.length≤cap∧∀i (hi:i<l.length),∃ad,a=some ad∧∀j u,([Value.int .u8 l[i]]:List Value)[j]?=some u→R ((ad.add (i*1)).add j) u:=h
theorem U8s.mono{R R':RO}{v:Value}{l:List Int}(h:U8s R v l)(hle:RO.le R R'):U8s R' v l:=by
 obtain⟨a,cap,e,hc,hf⟩:=h
 refine⟨a,cap,e,hc,fun i hi=>?_⟩
 obtain⟨ad,had,hR⟩:=hf i hi
 exact⟨ad,had,fun j u hj=>hle _ _ (hR j u hj)⟩
def Rw.cells(w:Rw)(g o:Value):List Value:=[.int .u8 w.st,g,o,.int .u8 w.beh,.int .u8 w.y0,.int .u8 w.y1,.int .u8 w.y2,.int .u8 w.y3,.int .u8 w.y4,.int .u8 w.y5,.int .u8 w.y6,.int .u8 w.y7,.int .u8 w.cal,.bool w.rules]
structure RwOK (w:Rw):Prop where
 st:0≤w.st∧w.st≤255
 beh:0≤w.beh∧w.beh≤255
 y:∀x∈[w.y0,w.y1,w.y2,w.y3,w.y4,w.y5,w.y6,w.y7],0≤x∧x≤255
 cal:0≤w.cal∧w.cal≤255
 gaps:∀x∈w.gaps,0≤x∧x≤255
 offs:∀x∈w.offs,0≤x∧x≤255
theorem W_u8{r:Int}(h:0≤r∧r≤255):W .u8 r r:=by
 unfold W;rw[IntKind.wrap_u8];omega
theorem zjD{R:RO}(c:Cal)(b1 c1:Nat)(sr:Value)(h1:RowIn R b1 (c.months.map (.int .i64)))(h2:c.months.length≤c1)(hb:∀m∈c.months,I64 m)(hr:RulesIn R sr c.rules)(he:I64 c.epoch)(hl:I64 c.leap)(hn:c.months.length≤1000):CalIn R c (.slice (some ⟨b1,0,none⟩) c.months.length c1) sr :=
 ⟨⟨RowIn.ints h1 (by omega),hb,by omega⟩,hr,he,hl⟩
def cA13:Cal:=⟨2,[7,6],-1,[]⟩
def cB13(q:Int):Cal:=⟨5,[7,8],1,[(2,q,true)]⟩
theorem zqe:cA13.valid:=by decide
theorem zqf(q:Int)(h:q=0∨q=1):(cB13 q).valid:=by rcases h with rfl|rfl<;>decide
structure TrG (T:List Tr) (at':Int):Prop where
 bd:∀x∈T,(-1080≤x.off∧x.off≤1080)∧0≤x.pos∧x.pos≤at'
 gap:∀i (h:i+1<T.length),2160≤T[i+1].pos-T[i].pos
theorem TrG.snoc{T:List Tr}{at' d o:Int}(h:TrG T at')(ha:0≤at')(hd:2160≤d)(ho : -1080≤o∧o≤1080):TrG (T++[⟨at'+d,o⟩]) (at'+d):=by
 refine⟨fun x hx=>?_,fun i hi=>?_⟩
 ·rcases List.mem_append.1 hx with hx|hx
  ·have:=h.bd x hx;omega
  ·simp only[List.mem_singleton] at hx
   subst hx
   exact⟨ho,by dsimp only;omega,Int.le_refl _⟩
 ·simp only[List.length_append,List.length_cons,List.length_nil] at hi
  rcases Nat.lt_or_ge (i+1) T.length with h1|h1
  ·rw[List.getElem_append_left h1,List.getElem_append_left (by omega)]
   exact h.gap i h1
  ·have:i+1=T.length:=by omega
   rw[List.getElem_append_left (by omega:i<T.length)]
   simp only[this]
   have:=(h.bd T[i] (List.getElem_mem _)).2.2
   rw[List.getElem_append_right (by omega:T.length≤T.length)]
   simp only[Nat.sub_self,List.getElem_cons_zero]
   omega
def rowYr(l:List Yr):List Value:=(l.map Yr.cells).flatten
def MadeZ(R':RO)(v:Value):Prop:=∃z n L,v = .agg (Zv.cells z).toArray∧ZnIn R' z n∧ZnOK n L
def r9:VCode:=vR (vR (vR vc9))
def r10:VCode:=vR (vR r9)
def r11:VCode:=vR (vR r10)
def r12:VCode:=vR r11
set_option maxHeartbeats 4000000 in
theorem zki(c:Cal)(hv:c.valid)(hm2:c.months.length=2)(ma ra:Option Addr)(mc rc:Nat)(so hor:Int)(hso : -1080≤so∧so≤1080)(T:List Tr)(Y:List Yr)(hP:∀Y',Y'=Y∨Y'=[]→ZnPre ⟨c,so,T,hor,Y'⟩)(hT0:T.length≤3)(hY2:Y.length=2)(R:RO)
  (hC:CalIn R c (.slice ma 2 mc) (.slice ra c.rules.length rc)) (raw:List SV) (env:Nat→SV) (e1:env 1 = .loc 0 0) (e2:env 2 = .loc 1 0) (e3:env 3 = .loc 2 0) (dl:List Blk) :
  CodeT ⟨Tryz.prog,0⟩ r12 ⟨env,.box raw :: .box [.val (.int .i64 0),.val (.slice none 0 0),.val (.int .i64 0),.val (.slice none 0 0),.val (.int .i64 0),.val (.slice none 0 0),.val (.int .i64 0),.val (.slice none 0 0)] ::
   .box [.val (.int .i64 c.epoch),.val (.slice ma 2 mc),.val (.int .i64 c.leap),.val (.slice ra c.rules.length rc),.val (.int .i64 so),gs 3 T.length,.val (.int .i64 hor),.sl 4 Y.length]::gb 95 2 (rowTr T) :: .row 97 5 (rowYr Y)::dl,R⟩
   (fun s=>RetT rs9 s (fun vs s'=>MadeZ s'.R (zbT vs)) .mk) (fun _ _=>False) (fun s=>RetT rs9 s (fun vs s'=>MadeZ s'.R (zbT vs)) .mk) .mk .mk .mk:=by
 have hYE:∀(b cap:Nat) (R':RO),RowIn R' b (rowYr Y)→(rowYr Y).length≤cap*5→EncV Yr.cells 5 R' (.slice (some ⟨b,0,none⟩) Y.length cap) Y:=fun b cap R' h1 h2=>RowIn.enc (fun _=>rfl) (by omega) h1 h2 (by omega)
 have hTE:∀(b cap:Nat) (R':RO),RowIn R' b (rowTr T)→(rowTr T).length≤cap*2→TrV R' (.slice (some ⟨b,0,none⟩) T.length cap) T:=fun b cap R' h1 h2=>RowIn.enc (fun _=>rfl) (by omega) h1 h2 (by omega)
 unfold r12 r11 r10 r9
 by_cases hT:T=[]
 ·subst hT
  rw[List.length_nil,zdU]
  simp only[go_sem,↓reduceIte,Qb,vR,vc9,rs9,e3]
  intro b cap R2 hle2 hrow hcap hfr
  try simp only[go_sem,↓reduceIte,Qa,Qb,Qc,Qd,Qe,Qf,reduceCtorEq]
  have hz:ZnIn R2 ⟨c.epoch,ma,2,mc,c.leap,ra,c.rules.length,rc,so,none,0,0,hor,some ⟨b,0,none⟩,Y.length,cap⟩ ⟨c,so,[],hor,Y⟩:=⟨rfl,rfl,hC.mono hle2,rfl,rfl,EncV.nil _ _ _,hYE b cap R2 hrow hcap⟩
  have hV:=zjC _ _ R2 hz (hP Y (.inl rfl))
  simp only[Zv.cells] at hV
  refine vcall hV ?_
  rintro R3 r hle3 ⟨e,rfl,he⟩
  try simp only[go_sem,↓reduceIte,Qa,Qb,e2,e3]
  refine⟨fun hne=>?_,fun heq=>?_⟩
  ·exact⟨⟨c.epoch,ma,2,mc,c.leap,ra,c.rules.length,rc,so,none,0,0,hor,none,0,0⟩,⟨c,so,[],hor,[]⟩,[],rfl,⟨rfl,rfl,hC.mono (RO.le_trans hle2 hle3),rfl,rfl,EncV.nil _ _ _,EncV.nil _ _ _⟩,(hP [] (.inr rfl)).ok0 rfl⟩
  ·obtain⟨L,hL⟩:=he heq
   exact⟨_,_,L,rfl,hz.mono hle3,hL⟩
 ·have hn0:T.length≠0:=fun e=>hT (List.eq_nil_of_length_eq_zero e)
  have hrw:rowTr T≠[]:=fun e=>by have:=zbR T;rw[e] at this;simp at this;omega
  rw[zaI hn0,gb_ne hrw]
  simp only[go_sem,↓reduceIte,Qa,Qb,vR,vc9,rs9,e3]
  intro b0 cap0 R1 hle1 hrow0 hcap0 hfr0 b cap R2 hle2 hrow hcap hfr
  try simp only[go_sem,↓reduceIte,Qa,Qb,Qc,Qd,Qe,Qf,reduceCtorEq]
  have hz:ZnIn R2 ⟨c.epoch,ma,2,mc,c.leap,ra,c.rules.length,rc,so,some ⟨b0,0,none⟩,T.length,cap0,hor,some ⟨b,0,none⟩,Y.length,cap⟩ ⟨c,so,T,hor,Y⟩:=⟨rfl,rfl,hC.mono (RO.le_trans hle1 hle2),rfl,rfl,hTE b0 cap0 R2 (hrow0.mono hle2) hcap0,hYE b cap R2 hrow hcap⟩
  have hV:=zjC _ _ R2 hz (hP Y (.inl rfl))
  simp only[Zv.cells] at hV
  refine vcall hV ?_
  rintro R3 r hle3 ⟨e,rfl,he⟩
  try simp only[go_sem,↓reduceIte,Qa,Qb,e2,e3]
  refine⟨fun hne=>?_,fun heq=>?_⟩
  ·exact⟨⟨c.epoch,ma,2,mc,c.leap,ra,c.rules.length,rc,so,some ⟨b0,0,none⟩,T.length,cap0,hor,none,0,0⟩,⟨c,so,T,hor,[]⟩,[],rfl,⟨rfl,rfl,hC.mono (RO.le_trans hle1 (RO.le_trans hle2 hle3)),rfl,rfl,hTE b0 cap0 R3 (hrow0.mono (RO.le_trans hle2 hle3)) hcap0,EncV.nil _ _ _⟩,(hP [] (.inr rfl)).ok0 rfl⟩
  ·obtain⟨L,hL⟩:=he heq
   exact⟨_,_,L,rfl,hz.mono hle3,hL⟩
set_option maxHeartbeats 4000000 in
theorem zn4(c:Cal)(hv:c.valid)(hm2:c.months.length=2)(ma ra:Option Addr)(mc rc:Nat)(so at' beh y0 y1 y2 y3 y4 y5 y6 y7:Int)(rules:Bool)(v0 v1 v2 v12:Value)(hso : -1080≤so∧so≤1080)(hbeh:0≤beh∧beh≤255)(hy:∀x∈[y0,y1,y2,y3,y4,y5,y6,y7],0≤x∧x≤255)(hat:0≤at'∧at'≤21780)(T:List Tr)(hT:T.length≤3)(hTG:TrG T at')(R:RO)
  (hC:CalIn R c (.slice ma 2 mc) (.slice ra c.rules.length rc)) (env:Nat→SV) (e1:env 1 = .loc 0 0) (e2:env 2 = .loc 1 0) (e3:env 3 = .loc 2 0) (e4:env 4 = .val (.int .i64 at')) (dl:List Blk) :
  CodeT ⟨Tryz.prog,0⟩ r10 ⟨env,.box [.val v0,.val v1,.val v2,.val (.int .u8 beh),.val (.int .u8 y0),.val (.int .u8 y1),.val (.int .u8 y2),.val (.int .u8 y3),.val (.int .u8 y4),.val (.int .u8 y5),.val (.int .u8 y6),.val (.int .u8 y7),.val v12,.val (.bool rules)] :: .box [.val (.int .i64 0),.val (.slice none 0 0),.val (.int .i64 0),.val (.slice none 0 0),.val (.int .i64 0),.val (.slice none 0 0),.val (.int .i64 0),.val (.slice none 0 0)] ::
   .box [.val (.int .i64 c.epoch),.val (.slice ma 2 mc),.val (.int .i64 c.leap),.val (.slice ra c.rules.length rc),.val (.int .i64 so),gs 3 T.length,.val (.int .i64 0),.val (.slice none 0 0)]::gb 95 2 (rowTr T)::dl,R⟩
   (fun s=>RetT rs9 s (fun vs s'=>MadeZ s'.R (zbT vs)) .mk) (fun _ _=>False) (fun s=>RetT rs9 s (fun vs s'=>MadeZ s'.R (zbT vs)) .mk) .mk .mk .mk:=by
 obtain⟨hor,hho⟩:∃hor,hor=at'+2160+20*beh:=⟨_,rfl⟩
 have hTE:∀(b cap:Nat) (R':RO),RowIn R' b (rowTr T)→(rowTr T).length≤cap*2→TrV R' (.slice (some ⟨b,0,none⟩) T.length cap) T:=fun b cap R' h1 h2=>RowIn.enc (fun _=>rfl) (by omega) h1 h2 (by omega)
 have hPre:∀Y:List Yr,(Y=[]∨∃r0 r1,Y=[r0,r1]∧(YrOK c r0∧(r0.week=1∨r0.week=5))∧(YrOK c r1∧(r1.week=1∨r1.week=5)))→ZnPre ⟨c,so,T,hor,Y⟩:=fun Y hY =>
  ⟨hv,hso,by dsimp only;omega,by dsimp only;omega,fun x hx=>by have:=hTG.bd x hx;dsimp only;omega,hTG.gap,hY⟩
 show CodeT _ (.seq (vL r10) (.seq (vL (vR r10)) r11)) _ _ _ _ .mk .mk .mk
 by_cases hru:rules=false
 ·subst hru
  unfold r10 r9
  by_cases hT0:T=[]
  ·subst hT0
   rw[List.length_nil,zdU]
   simp only[go_sem,↓reduceIte,Qa,Qb,Qd,vL,vR,vc9,rs9,e1,e2,e3,e4]
   refine⟨_,W.in64 (by omega),_,W.in64 (by omega),_,W.in64 (by omega),_,W.in64 (by omega),?_⟩
   rw[←hho]
   exact⟨⟨c.epoch,ma,2,mc,c.leap,ra,c.rules.length,rc,so,none,0,0,hor,none,0,0⟩,⟨c,so,[],hor,[]⟩,[],rfl,⟨rfl,rfl,hC,rfl,rfl,EncV.nil _ _ _,EncV.nil _ _ _⟩,(hPre [] (.inl rfl)).ok0 rfl⟩
  ·have hn0:T.length≠0:=fun e=>hT0 (List.eq_nil_of_length_eq_zero e)
   have hrw:rowTr T≠[]:=fun e=>by have:=zbR T;rw[e] at this;simp at this;omega
   rw[zaI hn0,gb_ne hrw]
   simp only[go_sem,↓reduceIte,Qa,Qb,Qd,vL,vR,vc9,rs9,e1,e2,e3,e4]
   refine⟨_,W.in64 (by omega),_,W.in64 (by omega),_,W.in64 (by omega),_,W.in64 (by omega),?_⟩
   rw[←hho]
   intro b0 cap0 R1 hle1 hrow0 hcap0 hfr0
   try simp only[go_sem,↓reduceIte,Qa,Qb,Qc,Qd,Qe,Qf,reduceCtorEq]
   exact⟨⟨c.epoch,ma,2,mc,c.leap,ra,c.rules.length,rc,so,some ⟨b0,0,none⟩,T.length,cap0,hor,none,0,0⟩,⟨c,so,T,hor,[]⟩,[],rfl,⟨rfl,rfl,hC.mono hle1,rfl,rfl,hTE b0 cap0 R1 hrow0 hcap0,EncV.nil _ _ _⟩,(hPre [] (.inl rfl)).ok0 rfl⟩
 obtain rfl:rules=true:=by simpa using hru
 unfold r10 r9
 simp only[go_sem,↓reduceIte,Qa,Qb,Qd,vL,vR,vc9,rs9,e1,e3,e4]
 refine⟨_,W.in64 (by omega),_,W.in64 (by omega),_,W.in64 (by omega),_,W.in64 (by omega),?_⟩
 rw[←hho]
 show CodeT _ (.seq (vL r11) r12) _ _ _ _ .mk .mk .mk
 unfold r11 r10 r9
 simp only[go_sem,vL,vR,vc9]
 refine zal (Nat×List Yr) (fun x=>[(6,.val (.int .i64 x.1)),(1,.loc 0 0),(2,.loc 1 0),(3,.loc 2 0)])
  (fun x=>[.box [.val v0,.val v1,.val v2,.val (.int .u8 beh),.val (.int .u8 y0),.val (.int .u8 y1),.val (.int .u8 y2),.val (.int .u8 y3),.val (.int .u8 y4),.val (.int .u8 y5),.val (.int .u8 y6),.val (.int .u8 y7),.val v12,.val (.bool true)],.box [.val (.int .i64 0),.val (.slice none 0 0),.val (.int .i64 0),.val (.slice none 0 0),.val (.int .i64 0),.val (.slice none 0 0),.val (.int .i64 0),.val (.slice none 0 0)],
   .box [.val (.int .i64 c.epoch),.val (.slice ma 2 mc),.val (.int .i64 c.leap),.val (.slice ra c.rules.length rc),.val (.int .i64 so),gs 3 T.length,.val (.int .i64 hor),gs 4 x.2.length],gb 95 2 (rowTr T),gb 97 5 (rowYr x.2)])
  (fun x _=>x.1≤2∧x.2.length=x.1∧∀r∈x.2,YrOK c r∧(r.week=1∨r.week=5)) (fun x=>2-x.1) (0,[]) [] ?_ ?_ ?_ ?_
 ·try simp only[go_sem,↓reduceIte,Qa,Qb,e1,e2,e3]
  exact⟨rfl,fun h=>gb_ne h,fun h=>absurd rfl h⟩
 ·try simp only[go_sem,Qb,Qe,Qf]
 ·exact⟨by omega,rfl,by simp⟩
 rintro⟨k,Y⟩ env2 R1 hle1 hE ⟨hk2,hYl,hYok⟩
 dsimp only at hk2 hYl hYok
 (simp only[go_sem] at hE;obtain⟨g6,g1,g2,g3⟩:=hE;simp only[go_sem,↓reduceIte,Qa,Qb,g6,g1];dsimp only at *)
 refine⟨fun hlt=>?_,fun hge=>?_⟩
 ·rcases(by omega:k=0∨k=1) with rfl|rfl
  ·obtain rfl:Y=[]:=List.eq_nil_of_length_eq_zero hYl
   have hgb:gb 97 5 (rowYr []) = .dead:=rfl
   try simp only[go_sem,↓reduceIte,Qa,Qb,Qc,g6,g3,hgb]
   refine⟨by decide,?_⟩
   try simp only[go_sem,↓reduceIte,Qa,Jd,Ja,Jb,Jc]
   have t3:0≤y0.tmod 3∧y0.tmod 3≤2:=by have:=hy y0 (by simp);rw[Int.tmod_eq_emod_of_nonneg this.1];omega
   have t1:=hy y1 (by simp)
   have t5:0≤y2.tmod 5∧y2.tmod 5≤255:=by have:=hy y2 (by simp);rw[Int.tmod_eq_emod_of_nonneg this.1];omega
   have t2:y3.tmod 2=0∨y3.tmod 2=1:=by have:=hy y3 (by simp);rw[Int.tmod_eq_emod_of_nonneg this.1];omega
   refine⟨_,W.in64 (by omega),by decide,_,W.in64 (by omega),_,W.in64 (by omega),_,W.in64 (by omega),by decide,?_⟩
   refine vcall (zg1 _ t5 R1) ?_
   rintro R2 r hle2 ⟨w,rfl,hw⟩
   try simp only[go_sem,↓reduceIte,Qa,Qb,Qc,Qd,reduceCtorEq,g3]
   try simp only[go_sem,↓reduceIte,Qa,Qb,Qd,Qe,Qf,g6,g1,g2,g3,Jd,Ja,Jb,Jc]
   refine⟨by decide,fun h5=>?_,fun h5=>?_⟩
   ·refine⟨_,W.in64 (by omega),(1,[⟨1+0,5,y0.tmod 3,y1*5,w⟩]),[0,1,2,3,7],by dsimp only;omega,⟨⟨rfl,rfl,rfl,rfl⟩,rfl,rfl,rfl,fun h=>congrArg some (gb_ne h),fun _=>rfl⟩,?_,by dsimp only;omega,rfl,?_⟩
    ·first|decide|(try simp only[go_sem,↓reduceIte,Qa,Qb,Qc,Qd,Qe,Qf,reduceCtorEq];decide)|trace_state
    ·intro r hr
     simp only[List.mem_cons,List.not_mem_nil,or_false] at hr
     subst hr
     ·exact⟨⟨by dsimp only;omega,by dsimp only;omega,by dsimp only;omega,by dsimp only;omega,hw⟩,.inr rfl⟩
   ·refine⟨_,W.in64 (by omega),(1,[⟨1+0,1,y0.tmod 3,y1*5,w⟩]),[0,1,2,3,7],by dsimp only;omega,⟨⟨rfl,rfl,rfl,rfl⟩,rfl,rfl,rfl,fun h=>congrArg some (gb_ne h),fun _=>rfl⟩,?_,by dsimp only;omega,rfl,?_⟩
    ·first|decide|(try simp only[go_sem,↓reduceIte,Qa,Qb,Qc,Qd,Qe,Qf,reduceCtorEq];decide)|trace_state
    ·intro r hr
     simp only[List.mem_cons,List.not_mem_nil,or_false] at hr
     subst hr
     ·exact⟨⟨by dsimp only;omega,by dsimp only;omega,by dsimp only;omega,by dsimp only;omega,hw⟩,.inl rfl⟩
  ·obtain⟨r0,rfl⟩:=List.length_eq_one_iff.1 hYl
   have hgb:gb 97 5 (rowYr [r0]) = .row 97 5 [.int .i64 r0.month,.int .i64 r0.week,.int .i64 r0.wday,.int .i64 r0.minute,.int .i64 r0.off]:=gb_ne (by simp[rowYr,Yr.cells])
   try simp only[go_sem,↓reduceIte,Qa,Qb,Qc,g6,g3,hgb]
   refine⟨by decide,?_⟩
   try simp only[go_sem,↓reduceIte,Qa,Jd,Ja,Jb,Jc]
   have t3:0≤y4.tmod 3∧y4.tmod 3≤2:=by have:=hy y4 (by simp);rw[Int.tmod_eq_emod_of_nonneg this.1];omega
   have t1:=hy y5 (by simp)
   have t5:0≤y6.tmod 5∧y6.tmod 5≤255:=by have:=hy y6 (by simp);rw[Int.tmod_eq_emod_of_nonneg this.1];omega
   have t2:y7.tmod 2=0∨y7.tmod 2=1:=by have:=hy y7 (by simp);rw[Int.tmod_eq_emod_of_nonneg this.1];omega
   refine⟨_,W.in64 (by omega),by decide,_,W.in64 (by omega),_,W.in64 (by omega),_,W.in64 (by omega),by decide,?_⟩
   refine vcall (zg1 _ t5 R1) ?_
   rintro R2 r hle2 ⟨w,rfl,hw⟩
   try simp only[go_sem,↓reduceIte,Qa,Qb,Qc,Qd]
   try simp only[go_sem,↓reduceIte,Qa,Qb,Qc,Qd,Qe,Qf,reduceCtorEq,g6,g1,g2,g3,hgb,Jd,Ja,Jb,Jc]
   refine vappO [.int .i64 r0.month,.int .i64 r0.week,.int .i64 r0.wday,.int .i64 r0.minute,.int .i64 r0.off] rfl rfl (by omega) ?_
   try simp only[go_sem,↓reduceIte,Qa,Qb,Qc,Qd,Qe,Qf,g6,g1,g2,g3,Jd,Ja,Jb,Jc]
   refine⟨by decide,fun h5=>?_,fun h5=>?_⟩
   ·refine⟨_,W.in64 (by omega),(2,[r0,⟨1+1,5,y4.tmod 3,y5*5,w⟩]),[0,1,2,3,7],by dsimp only;omega,⟨⟨rfl,rfl,rfl,rfl⟩,rfl,rfl,rfl,fun h=>congrArg some (gb_ne h),fun _=>rfl⟩,?_,by dsimp only;omega,rfl,?_⟩
    ·first|decide|(try simp only[go_sem,↓reduceIte,Qa,Qb,Qc,Qd,Qe,Qf,reduceCtorEq];decide)|trace_state
    ·intro r hr
     simp only[List.mem_cons,List.not_mem_nil,or_false] at hr
     rcases hr with rfl|rfl
     ·exact hYok _ (by simp)
     ·exact⟨⟨by dsimp only;omega,by dsimp only;omega,by dsimp only;omega,by dsimp only;omega,hw⟩,.inr rfl⟩
   ·refine⟨_,W.in64 (by omega),(2,[r0,⟨1+1,1,y4.tmod 3,y5*5,w⟩]),[0,1,2,3,7],by dsimp only;omega,⟨⟨rfl,rfl,rfl,rfl⟩,rfl,rfl,rfl,fun h=>congrArg some (gb_ne h),fun _=>rfl⟩,?_,by dsimp only;omega,rfl,?_⟩
    ·first|decide|(try simp only[go_sem,↓reduceIte,Qa,Qb,Qc,Qd,Qe,Qf,reduceCtorEq];decide)|trace_state
    ·intro r hr
     simp only[List.mem_cons,List.not_mem_nil,or_false] at hr
     rcases hr with rfl|rfl
     ·exact hYok _ (by simp)
     ·exact⟨⟨by dsimp only;omega,by dsimp only;omega,by dsimp only;omega,by dsimp only;omega,hw⟩,.inl rfl⟩
 ·obtain rfl:k=2:=by omega
  obtain⟨r0,r1,rfl⟩:∃r0 r1,Y=[r0,r1]:=by
   rcases Y with _|⟨r0,_|⟨r1,_|_⟩⟩
   ·simp at hYl
   ·simp at hYl
   ·exact⟨_,_,rfl⟩
   ·simp at hYl
  refine zki c hv hm2 ma ra mc rc so hor hso T [r0,r1] ?_ hT rfl R1 (hC.mono hle1) _ _ ?_ ?_ ?_ []
  ·rintro Y' (rfl|rfl)
   ·exact hPre _ (.inr ⟨r0,r1,rfl,hYok r0 (by simp),hYok r1 (by simp)⟩)
   ·exact hPre _ (.inl rfl)
  all_goals
   try simp only[go_sem,↓reduceIte,Qa,g1,g2,g3]
set_option maxHeartbeats 4000000 in
theorem ziD(w:Rw)(hw:RwOK w)(ga oa:Option Addr)(gc oc:Nat)(c:Cal)(hv:c.valid)(hm2:c.months.length=2)(ma ra:Option Addr)(mc rc:Nat)(so:Int)(hso : -1080≤so∧so≤1080)(R:RO)(hg:U8s R (.slice ga w.gaps.length gc) w.gaps)(ho:U8s R (.slice oa w.offs.length oc) w.offs)
  (hC:CalIn R c (.slice ma 2 mc) (.slice ra c.rules.length rc)) (env:Nat→SV) (e1:env 1 = .loc 0 0) (e2:env 2 = .loc 1 0) (e3:env 3 = .loc 3 0) (mid:Blk) (dl:List Blk) :
  CodeT ⟨Tryz.prog,0⟩ r9 ⟨env,.box ((w.cells (.slice ga w.gaps.length gc) (.slice oa w.offs.length oc)).map .val) :: .box [.val (.int .i64 0),.val (.slice none 0 0),.val (.int .i64 0),.val (.slice none 0 0),.val (.int .i64 0),.val (.slice none 0 0),.val (.int .i64 0),.val (.slice none 0 0)]::mid ::
   .box [.val (.int .i64 c.epoch),.val (.slice ma 2 mc),.val (.int .i64 c.leap),.val (.slice ra c.rules.length rc),.val (.int .i64 so),.val (.slice none 0 0),.val (.int .i64 0),.val (.slice none 0 0)]::dl,R⟩
   (fun s=>RetT rs9 s (fun vs s'=>MadeZ s'.R (zbT vs)) .mk) (fun _ _=>False) (fun s=>RetT rs9 s (fun vs s'=>MadeZ s'.R (zbT vs)) .mk) .mk .mk .mk:=by
 obtain⟨st,gaps,offs,beh,y0,y1,y2,y3,y4,y5,y6,y7,cal,rules⟩:=w
 obtain⟨hst,hbeh,hy,hcal,hgp,hof⟩:=hw
 dsimp only at hst hbeh hy hcal hgp hof hg ho
 obtain⟨ga',gc',eg,_,hgf⟩:=hg.form
 simp only[Value.slice.injEq,true_and] at eg
 obtain⟨rfl,rfl⟩:=eg
 obtain⟨oa',oc',eo,_,hof2⟩:=ho.form
 simp only[Value.slice.injEq,true_and] at eo
 obtain⟨rfl,rfl⟩:=eo
 simp only[Rw.cells,List.map_cons,List.map_nil]
 show CodeT _ (.seq (vL r9) (.seq (vL (vR r9)) r10)) _ _ _ _ .mk .mk .mk
 unfold r9
 simp only[go_sem,vL,vR,vc9]
 refine zal (Nat×Int×List Tr) (fun x=>[(5,.val (.int .i64 x.1)),(4,.val (.int .i64 x.2.1)),(1,.loc 0 0),(2,.loc 1 0),(3,.loc 2 0)])
  (fun x=>[.box [.val (.int .u8 st),.val (.slice ga gaps.length gc),.val (.slice oa offs.length oc),.val (.int .u8 beh),.val (.int .u8 y0),.val (.int .u8 y1),.val (.int .u8 y2),.val (.int .u8 y3),.val (.int .u8 y4),.val (.int .u8 y5),.val (.int .u8 y6),.val (.int .u8 y7),.val (.int .u8 cal),.val (.bool rules)],.box [.val (.int .i64 0),.val (.slice none 0 0),.val (.int .i64 0),.val (.slice none 0 0),.val (.int .i64 0),.val (.slice none 0 0),.val (.int .i64 0),.val (.slice none 0 0)],.box [.val (.int .i64 c.epoch),.val (.slice ma 2 mc),.val (.int .i64 c.leap),.val (.slice ra c.rules.length rc),.val (.int .i64 so),gs 3 x.2.2.length,.val (.int .i64 0),.val (.slice none 0 0)],gb 95 2 (rowTr x.2.2)])
  (fun x _=>x.1≤3∧x.2.2.length=x.1∧(0≤x.2.1∧x.2.1≤7260*x.1)∧TrG x.2.2 x.2.1) (fun x=>3-x.1) (0,0,[]) [0,1,3,4] ?_ ?_ ?_ ?_
 ·try simp only[go_sem,↓reduceIte,Qa,Qb,e1,e2,e3]
  exact⟨rfl,fun h=>absurd rfl h⟩
 ·try simp only[go_sem,Qb,Qe,Qf]
  decide
 ·exact⟨by omega,rfl,by simp,⟨fun x hx=>by simp at hx,fun i hi=>by simp at hi⟩⟩
 rintro⟨i,at',T⟩ env2 R1 hle1 hE ⟨h3,hTl,hat,hTG⟩
 dsimp only at h3 hTl hat hTG
 (simp only[go_sem] at hE;obtain⟨f5,f4,f1,f2,f3⟩:=hE;simp only[go_sem,↓reduceIte,Qa,Qb,f5,f4,f1];dsimp only at *)
 refine⟨fun hg1=>⟨fun ho1=>⟨fun h3'=>?_,fun h3'=>?_⟩,fun ho1=>?_⟩,fun hg1=>?_⟩
 ·obtain⟨ad,had,hR⟩:=hgf i (by omega)
  have hgi:=hgp gaps[i] (List.getElem_mem _)
  refine⟨_,W.in64 (by omega),by omega,vat ad had ?_⟩
  try simp only[go_sem,↓reduceIte]
  refine vload (.int .u8 gaps[i]) (hle1 _ _ (by have h:=hR 0 _ rfl;rw[Nat.mul_one] at h;exact h)) ?_
  try simp only[go_sem,↓reduceIte,Qa,f5,f1,f3]
  obtain⟨ao,hao,hRo⟩:=hof2 i (by omega)
  have hoi:=hof offs[i] (List.getElem_mem _)
  refine⟨_,W.in64 (by omega),_,W.in64 (by omega),_,W.in64 (by omega),by omega,vat ao hao ?_⟩
  try simp only[go_sem,↓reduceIte]
  refine vload (.int .u8 offs[i]) (hle1 _ _ (by have h:=hRo 0 _ rfl;rw[Nat.mul_one] at h;exact h)) ?_
  try simp only[go_sem,↓reduceIte]
  refine vcall (zg1 offs[i] hoi R1) ?_
  rintro R2 r hle2 ⟨w,rfl,hw⟩
  try simp only[go_sem,↓reduceIte,Qa,Qb,Qc,Qd]
  refine vgrow (rowTr T) (fun h0=>by rfl) (fun h0=>by rw[h0,zbv];rfl) (zbR T) (by omega) (by omega) (by omega) ?_
  try simp only[go_sem,↓reduceIte,Qa,Qb,Qd,Qe,Qf,f5,f1,f2,f3]
  refine⟨_,W.in64 (by omega),(i+1,at'+2160+20*gaps[i],T++[⟨at'+2160+20*gaps[i],w⟩]),[0,1,2,5],by dsimp only;omega,⟨⟨by dsimp only;push_cast;rfl,rfl,rfl,rfl,rfl⟩,rfl,rfl,?_,fun _=>?_⟩,by decide,by dsimp only;omega,?_,?_,?_⟩
  ·simp only[List.length_append,List.length_cons,List.length_nil,Nat.zero_add,zjb]
   rfl
  ·simp only[zfq]
   rfl
  ·dsimp only
   simp only[List.length_append,List.length_cons,List.length_nil]
   omega
  ·dsimp only
   omega
  ·have:=hTG.snoc (d:=2160+20*gaps[i]) (o:=w) hat.1 (by omega) hw
   rw[←Int.add_assoc] at this
   exact this
 all_goals
  refine zn4 c hv hm2 ma ra mc rc so at' beh y0 y1 y2 y3 y4 y5 y6 y7 rules _ _ _ _ hso hbeh hy (by omega) T (by omega) hTG R1 (hC.mono hle1) _ ?_ ?_ ?_ ?_ []
  all_goals
   try simp only[go_sem,↓reduceIte,Qa,f4,f1,f2,f3]
set_option maxHeartbeats 4000000 in
theorem zqg(w:Rw)(hw:RwOK w)(g o:Value)(R:RO)(hg:U8s R g w.gaps)(ho:U8s R o w.offs):zaa Tryz.prog 9 [.agg (w.cells g o).toArray] R MadeZ:=by
 obtain⟨ga,gc,rfl,hgc,hgf⟩:=hg.form
 obtain⟨oa,oc,rfl,hoc,hof2⟩:=ho.form
 have hst:=hw.st
 have hcal:=hw.cal
 have key:=ziD w hw ga oa gc oc
 refine zac mix Tryz.func9 comp9 (by simp[Tryz.ntmps9]) ?_
 show CodeT _ (.seq (vL vc9) (.seq (vL (vR vc9)) (.seq (vL (vR (vR vc9))) r9))) _ _ _ _ .mk .mk .mk
 simp only[Rw.cells,List.map_cons,List.map_nil] at key ⊢
 simp only[go_sem,↓reduceIte,Qa,vL,vR,vc9]
 refine vcall (zg1 w.st hst R) ?_
 rintro R1 r hle1 ⟨so,rfl,hso⟩
 try simp only[go_sem,↓reduceIte,Qa,Qb,Qd]
 intro b cap R2 hle2 hrow hcap hfr
 try simp only[go_sem,↓reduceIte,Qa,Qb,Qc,Qd,Qe,Qf,reduceCtorEq]
 have hle02:RO.le R R2:=RO.le_trans hle1 hle2
 refine⟨by decide,fun hodd=>?_,fun heven=>?_⟩
 ·refine⟨by decide,_,W_u8 (by rw[Int.tdiv_eq_ediv_of_nonneg hcal.1];omega),by decide,?_⟩
  have hq:(w.cal.tdiv 2).tmod 2=0∨(w.cal.tdiv 2).tmod 2=1:=by
   rw[Int.tdiv_eq_ediv_of_nonneg hcal.1,Int.tmod_eq_emod_of_nonneg (by omega)]
   omega
  obtain⟨q,hqe⟩:∃q,q=(w.cal.tdiv 2).tmod 2:=⟨_,rfl⟩
  rw[←hqe] at hq ⊢
  refine⟨_,W.in64 (by omega),?_⟩
  intro b1 c1 R3 hle3 hrow1 hcap1 hfr1 b2 c2 R4 hle4 hrow2 hcap2 hfr2
  have hle04:RO.le R R4:=RO.le_trans hle02 (RO.le_trans hle3 hle4)
  refine key (cB13 q) (zqf q hq) rfl (some ⟨b1,0,none⟩) (some ⟨b2,0,none⟩) c1 c2 so hso R4 (hg.mono hle04) (ho.mono hle04) ?_ _ ?_ ?_ ?_ _ _
  ·refine zjD (cB13 q) b1 c1 _ (hrow1.mono hle4) hcap1 (fun m hm=>?_) ⟨?_,fun r hr=>?_,by simp[cB13]⟩ (by unfold I64 cB13;dsimp only;omega) (by unfold I64 cB13;dsimp only;omega) (by simp[cB13])
   ·simp only[cB13,List.mem_cons,List.not_mem_nil,or_false] at hm
    unfold I64
    omega
   ·exact(RowIn.enc (enc:=za0) (k:=3) (xs:=[((2:Int),q,true)]) (fun _=>rfl) (by omega) hrow2 hcap2 (by simp)).1
   ·simp only[cB13,List.mem_cons,List.not_mem_nil,or_false] at hr
    subst hr
    unfold I64
    dsimp only
    omega
  ·try simp only[go_sem,↓reduceIte,Qa]
  ·try simp only[go_sem,↓reduceIte,Qa]
  ·try simp only[go_sem,↓reduceIte,Qa]
 ·refine key cA13 zqe rfl (some ⟨b,0,none⟩) none cap 0 so hso R2 (hg.mono hle02) (ho.mono hle02) ?_ _ ?_ ?_ ?_ _ _
  ·refine zjD cA13 b cap _ hrow hcap (fun m hm=>?_) ⟨?_,fun r hr=>?_,by simp[cA13]⟩ (by decide) (by decide) (by decide)
   ·simp only[cA13,List.mem_cons,List.not_mem_nil,or_false] at hm
    unfold I64
    omega
   ·exact(EncV.nil za0 _ _).1
   ·simp[cA13] at hr
  ·try simp only[go_sem,↓reduceIte,Qa]
  ·try simp only[go_sem,↓reduceIte,Qa]
  ·try simp only[go_sem,↓reduceIte,Qa]
structure TiOK (t:Ti):Prop where
 rule:∃n,t.rule=[zap n]∧1≤n∧n≤1099511627776
 minute:0≤t.minute∧t.minute≤1439
 length:1≤t.length∧t.length≤10080
 gap:0≤t.gap∧t.gap≤2
 fold:0≤t.fold∧t.fold≤2
 zone:1≤t.zone.size∧t.zone.size≤32
theorem zhH(n:Int):∃k,ruleN n=[zap k]∧1≤k∧k≤1099511627776:=⟨1+n%3,rfl,by omega,by omega⟩
structure MdD (d:De):Prop where
 rule:d.kind=3→∃n,d.rule=[zap n]∧1≤n∧n≤1099511627776
 minute:d.kind=2→0≤d.minute∧d.minute≤1439
 length:d.kind=2→1≤d.length∧d.length≤10080
 zone:d.kind=4→1≤d.zone.size∧d.zone.size≤32
theorem zn5(e:Ed):MdD (madeE e):=by
 refine⟨fun h=>?_,fun h=>?_,fun h=>?_,fun h=>?_⟩
 ·replace h:1+e.kind%5=3:=h
  show ∃n,(if 1+e.kind%5=3 then ruleN e.minute else[])=[zap n]∧_
  rw[if_pos h];exact zhH _
 ·replace h:1+e.kind%5=2:=h
  show 0≤(if 1+e.kind%5=2 then e.minute%3 else 0)∧(if 1+e.kind%5=2 then e.minute%3 else 0)≤1439
  rw[if_pos h];omega
 ·replace h:1+e.kind%5=2:=h
  show 1≤(if 1+e.kind%5=2 then 1+e.length%2 else 0)∧(if 1+e.kind%5=2 then 1+e.length%2 else 0)≤10080
  rw[if_pos h];omega
 ·replace h:1+e.kind%5=4:=h
  show 1≤(if 1+e.kind%5=4 then(if e.minute%2=0 then zA else zB) else⟨#[]⟩:ByteArray).size∧(if 1+e.kind%5=4 then(if e.minute%2=0 then zA else zB) else⟨#[]⟩:ByteArray).size≤32
  rw[if_pos h];split<;>decide
theorem zqh(s:Se)(rl:List Nd)(o:List De)(hs:TiOK (s.ti rl))(ho:∀d∈o,MdD d)(x:Int):TiOK (tiOn s rl o x):=by
 have hk:∀{k:Int} {c:De},kOn k x c=true→c.kind=k:=fun h=>by simp[kOn] at h;exact h.1
 refine⟨?_,?_,?_,hs.gap,hs.fold,?_⟩
 ·show ∃n,(onE x (s.on rl) o).rule=[zap n]∧_
  rw[zgq]
  cases h:zaL (kOn 3 x) o with
  |none=>exact hs.rule
  |some c=>exact(ho c (zaz h).1).rule (hk (zaz h).2)
 ·show 0≤(onE x (s.on rl) o).minute∧(onE x (s.on rl) o).minute≤1439
  rw[zgq]
  cases h:zaL (kOn 2 x) o with
  |none=>exact hs.minute
  |some c=>exact(ho c (zaz h).1).minute (hk (zaz h).2)
 ·show 1≤(onE x (s.on rl) o).length∧(onE x (s.on rl) o).length≤10080
  rw[zgq]
  cases h:zaL (kOn 2 x) o with
  |none=>exact hs.length
  |some c=>exact(ho c (zaz h).1).length (hk (zaz h).2)
 ·show 1≤(onE x (s.on rl) o).zone.size∧(onE x (s.on rl) o).zone.size≤32
  rw[zgq]
  cases h:zaL (kOn 4 x) o with
  |none=>exact hs.zone
  |some c=>exact(ho c (zaz h).1).zone (hk (zaz h).2)
theorem zcR{P:Ti→Prop}(e:Int)(f:Int→Ti)(hz:P Ti.zero)(hf:∀d,P (f d)):∀(l:List Int) (out:List (Int×Ti)),(∀p∈out,P p.2)→∀p∈partsGo e f l out,P p.2
 |[],out,h=>by rw[zfb];exact h
 |d::r,out,h=>by
  have hs:∀t,P t→∀p∈out++[(d,t)],P p.2:=fun t ht p hp=>by
   rcases List.mem_append.1 hp with hp|hp
   ·exact h p hp
   ·simp only[List.mem_cons,List.not_mem_nil,or_false] at hp;subst hp;exact ht
  rw[partsGo]
  split
  ·exact hs _ hz
  ·split
   ·split
    ·exact zcR e f hz hf r out h
    ·exact zcR e f hz hf r _ (hs _ (hf d))
   ·exact zcR e f hz hf r _ (hs _ (hf d))
structure PaOK (p:Pa):Prop where
 ti:p.ti=Ti.zero∨TiOK p.ti
 mv:∀m∈p.moves,zaU m=true
 asc:AscM p.moves
 len:p.moves.length≤64
theorem zkj(ms:List Mv)(ds:List De)(e:Int):(movesD ms ds e).length≤ds.length+ms.length:=by
 unfold movesD
 rw[List.length_append,List.length_map]
 have h1:=List.length_filter_le zcl ds
 have h2:=List.length_filter_le (fun m:Mv=>decide (m.day<e)&&(!(ds.any (zav m.day)) && !(ds.any (zck m.day)))) ms
 omega
theorem zn6(s:Se)(rl:List Nd)(ms:List Mv){o:List De}(ho:zae o)(hv:∀d∈o,zak d=true)(hmd:∀d∈o,MdD d)(hm:zaR none ms=true)(hs:TiOK (s.ti rl))(hl:o.length+ms.length≤64):∀p∈mergeP s rl ms o,PaOK p:=by
 intro p hp
 obtain⟨i,hi,rfl⟩:=List.mem_iff_getElem.1 hp
 obtain⟨h',e⟩:=zd3 hi
 have hfo:∀d∈forceD o,d∈o:=fun d hd=>(zaS.1 hd).1
 have hvf:∀d∈forceD o,zak d=true:=fun d hd=>hv d (hfo d hd)
 have hfl:(forceD o).length≤o.length:=List.length_filter_le _ _
 have hml:=zkj ms (forceD o) (endE (forceD o))
 have hsl:(sortM (movesD ms (forceD o) (endE (forceD o)))).length=(movesD ms (forceD o) (endE (forceD o))).length:=(zbI _).length_eq
 have hmem:∀m∈sortM (movesD ms (forceD o) (endE (forceD o))),zaU m=true:=fun m hm'=>by
  rcases List.mem_append.1 ((zbI _).mem_iff.1 hm') with h|h
  ·obtain⟨d,hd,rfl⟩:=List.mem_map.1 h
   obtain⟨hd1,hd2⟩:=List.mem_filter.1 hd
   exact(zaO (hvf d hd1) (by simpa[zcl] using hd2)).1
  ·exact zcP hm m (List.mem_filter.1 h).1
 rw[e]
 refine⟨?_,fun m hm'=>hmem m (List.mem_filter.1 hm').1,?_,?_⟩
 ·exact zcR (P:=fun t=>t=Ti.zero∨TiOK t) _ _ (.inl rfl) (fun d => .inr (zqh s rl _ hs (fun d hd=>hmd d (hfo d hd)) d)) _ _ (by simp) _ (List.getElem_mem h')
 ·have hx:=(zdK s rl ms (x:=0) ho hv hm hs.length.1 (by omega)).2.2.2.1 i hi
  rw[e] at hx
  exact hx.2
 ·have:=List.length_filter_le (fun m:Mv=>decide (zbQ ((zaQ s rl (forceD o) (endE (forceD o))).map (·.1)) m.day=i)) (sortM (movesD ms (forceD o) (endE (forceD o))))
  dsimp only
  omega
theorem TiOK.se{t:Ti}{ms:List Mv}(h:TiOK t)(rv mv:Value)(h1:∀m∈ms,zaU m=true)(h2:AscM ms)(h3:ms.length≤64):∃n,t.rule=[zap n]∧SeOK ⟨rv,t.minute,t.length,t.zone,t.gap,t.fold,mv⟩ n ms:=by
 obtain⟨n,e,hn⟩:=h.rule
 exact⟨n,e,hn,h1,h2,h3,h.minute,h.length,h.gap,h.fold,h.zone⟩
theorem zn7{ms:List Mv}(ha:AscM ms){m:Mv}(hm:m∈ms):mvOnT ms m.day=some m:=by
 unfold mvOnT
 cases hf:ms.find? (fun x=>decide (x.day=m.day)) with
 |none =>
  have:=List.find?_eq_none.1 hf m hm
  simp at this
 |some y =>
  have h1:=List.find?_some hf
  have h2:=List.mem_of_find?_eq_some hf
  have h3:y.day=m.day:=by simpa using h1
  exact congrArg some (zbA (f:=Mv.day) (ha.imp fun h=>by omega) h2 hm h3)
theorem zn8(s:Se)(rl:List Nd){o:List De}(hs:zae o)(hv:∀d∈o,zak d=true)(hl:1≤s.length){x:Int}{a:Nat}(ha:a<(mergeP s rl [] o).length)(h1:((mergeP s rl [] o)[a]).day≤x)(h2:∀j,a<j→(hj:j<(mergeP s rl [] o).length)→x<((mergeP s rl [] o)[j]).day) :
  mvOnT ((mergeP s rl [] o)[a]).moves x=(zaL (zav x) (forceD o)).map (·.mv):=by
 have hvf:∀d∈forceD o,zak d=true:=fun d hd=>hv d (zaS.1 hd).1
 have hasc:AscM ((mergeP s rl [] o)[a]).moves:=((zdK s rl [] (x:=0) hs hv rfl hl (by omega)).2.2.2.1 a ha).2
 have hinc:=(zdI s rl (forceD o) (endE (forceD o)) (fun d hd=>(zd2 (hvf d hd)).1)).1
 obtain⟨h',e⟩:=zd3 ha
 have hday:∀i (h:i<(mergeP s rl [] o).length) (h':i<((zaQ s rl (forceD o) (endE (forceD o))).map (·.1)).length),((mergeP s rl [] o)[i]).day=((zaQ s rl (forceD o) (endE (forceD o))).map (·.1))[i]:=fun i h h'=>by
  obtain⟨h1,e⟩:=zd3 h
  rw[e,List.getElem_map]
 have hlen:=zdq s rl [] o
 have ha':a<((zaQ s rl (forceD o) (endE (forceD o))).map (·.1)).length:=by simpa using h'
 have hpa:zbQ ((zaQ s rl (forceD o) (endE (forceD o))).map (·.1)) x=a:=zfd hinc ha' x (by rw[←hday a ha ha'];exact h1) (fun j hj hij=>by
  have hj':j<(mergeP s rl [] o).length:=by rw[hlen];simpa using hj
  rw[←hday j hj' hj];exact h2 j hij hj')
 have hmem:∀m,m∈((mergeP s rl [] o)[a]).moves↔(∃d∈forceD o,d.kind=1∧d.mv=m)∧zbQ ((zaQ s rl (forceD o) (endE (forceD o))).map (·.1)) m.day=a:=fun m=>by
  rw[e]
  show m∈(sortM (movesD [] (forceD o) (endE (forceD o)))).filter _↔_
  rw[List.mem_filter,(zbI _).mem_iff]
  unfold movesD
  simp only[List.filter_nil,List.append_nil,List.mem_map,List.mem_filter,zcl,decide_eq_true_eq]
  constructor
  ·rintro⟨⟨d,⟨hd,hk⟩,rfl⟩,h⟩;exact⟨⟨d,hd,hk,rfl⟩,h⟩
  ·rintro⟨⟨d,hd,hk,rfl⟩,h⟩;exact⟨⟨d,⟨hd,hk⟩,rfl⟩,h⟩
 cases hlo:zaL (zav x) (forceD o) with
 |some d =>
  obtain⟨hd,hp⟩:=zaz hlo
  simp only[zav,Bool.and_eq_true,decide_eq_true_eq] at hp
  have hmd:=(zaO (hvf d hd) hp.1).2
  have hm:d.mv∈((mergeP s rl [] o)[a]).moves:=(hmem _).2 ⟨⟨d,hd,hp.1,rfl⟩,by rw[hmd,hp.2];exact hpa⟩
  have:=zn7 hasc hm
  rw[hmd,hp.2] at this
  exact this
 |none =>
  unfold mvOnT
  show _=none
  rw[List.find?_eq_none]
  intro m hm hmx
  have hmx':m.day=x:=by simpa using hmx
  obtain⟨⟨d,hd,hk,rfl⟩,_⟩:=(hmem m).1 hm
  have hmd:=(zaO (hvf d hd) hk).2
  have:=zfg hlo d hd
  simp only[zav,hk,decide_true,Bool.true_and,decide_eq_false_iff_not] at this
  omega
end Go.Proofs.YtdgndfabdmecmaaGreat
