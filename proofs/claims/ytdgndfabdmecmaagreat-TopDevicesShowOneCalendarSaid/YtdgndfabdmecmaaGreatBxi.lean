/- Lemmas of our own, no statement of the seat; the last one of the claim's texts proves the law. -/
import Derived.ProofKit
import Derived.SizedLaws
import Derived.Deep.Slices
import Derived.Deep.Fields
import Derived.Lib.SmallJoins
import Derived.Test.YtdgndfabdmecmaaGreatBxh
import Derived.Test.YtdgndfabdmecmaaGreatBxc
import Derived.Test.YtdgndfabdmecmaaGreatBxd
import Derived.Test.YtdgndfabdmecmaaGreatRows
import Derived.Test.YtdgndfabdmecmaaGreatVcI
import Derived.Test.YtdgndfabdmecmaaGreatBxf
import Derived.Test.YtdgndfabdmecmaaGreatBxg
open Nat renaming reduceEqDiff → Qa, reduceAdd → Qb, reduceMul → Qc, reduceLeDiff → Qd, reduceLT → Qe, reduceBNe → Qf
open Int renaming reduceLE → Ja, reduceLT → Jb, reduceToNat → Jc, cast_ofNat_Int → Jd, reduceEq → Je, reduceNe → Jf
set_option linter.unusedSimpArgs false
set_option linter.unusedVariables false
namespace Go.Proofs.YtdgndfabdmecmaaGreat
set_option linter.unusedSectionVars false
variable [Go.Proofs.YtdgndfabdmecmaaGreat.Vc.Drew]
open Go.Proofs.YtdgndfabdmecmaaGreat.Vc
/-! ### The reference's order and validity -/
theorem rLess(a b:Ed)(R:RO):zaa Tryz.prog 169 [a.val,b.val] R fun _ v=>v = .bool (lessE a b):=by
 simp only[Ed.val]
 refine zac mix Tryz.func169 comp169 (by simp[Tryz.ntmps169]) ?_;simp only[go_sem,↓reduceIte,Qa,vc169,rs169]
 unfold lessE
 repeat' (with_reducible first|refine And.intro ?_ ?_|intro _)
 all_goals (congr 1)
 all_goals first
  |rfl
  |(simp;done)
  |(simp;omega)
  |(rw[decide_eq_decide];omega)
  |(symm;rw[decide_eq_true_iff];omega)
  |(symm;rw[decide_eq_false_iff_not];omega)
theorem zks(m:Mv)(R:RO):zaa Tryz.prog 170 [m.val] R fun _ v=>v = .bool (zaU m):=by
 obtain⟨day,drop,toDay,minute,length⟩:=m
 simp only[Mv.val]
 refine zac mix Tryz.func170 comp170 (by simp[Tryz.ntmps170]) ?_;simp only[go_sem,↓reduceIte,Qa,vc170,rs170]
 unfold zaU betw
 cases drop
 all_goals dsimp only
 all_goals repeat' (with_reducible first|refine And.intro ?_ ?_|intro _)
 all_goals (congr 1)
 all_goals first
  |rfl
  |(simp;done)
  |(simp;omega)
  |(simp_all;done)
  |(simp_all;omega)
theorem zl7(z:ByteArray):(z==⟨#[]⟩)=decide ((z.size:Int)=0):=by
 obtain⟨a⟩:=z
 by_cases h:a = #[]
 ·subst h;rfl
 ·have h1:((⟨a⟩:ByteArray)==⟨#[]⟩)=false:=by
   cases hb:((⟨a⟩:ByteArray)==⟨#[]⟩) with
   |false=>rfl
   |true =>
    exfalso
    have h2:(a == #[])=true:=hb
    exact h (by simpa using h2)
  rw[h1]
  symm
  rw[decide_eq_false_iff_not]
  intro h2
  have h3:a.size=0:=by
   have:(⟨a⟩:ByteArray).size=a.size:=rfl
   omega
  exact h (by simpa using h3)
set_option maxRecDepth 100000 in
set_option maxHeartbeats 4000000 in
theorem zl8(e:Ed)(R:RO):zaa Tryz.prog 117 [e.val] R fun _ v=>v = .bool (zbg e):=by
  have hm:=zks e.mv
  simp only[Ed.val,Mv.val] at hm ⊢
  refine zac mix Tryz.func117 comp117 (by simp[Tryz.ntmps117]) ?_;simp only[go_sem,↓reduceIte,Qa,Qb,vc117,rs117]
  repeat' (with_reducible first
    |refine And.intro ?_ ?_
    |intro _
    |(refine vcall (hm _) ?_;rintro _ _ _ rfl;try simp only[go_sem,↓reduceIte,Qa]))
  all_goals (congr 1)
  all_goals (unfold zbg kindE betw restZ mvZ)
  all_goals first
    |(simp_all [zbO];done)
    |(simp_all [zbO];omega)
    |(simp only[zl7] at *;simp_all;done)
    |(simp only[zl7] at *;simp_all;omega)
    | (have hzs : (e.zone == ⟨#[]⟩) = false → 1 ≤ (e.zone.size : Int) := fun h => by rw [zl7, decide_eq_false_iff_not] at h; omega
       simp_all [zbO];done)
/-! ### The reference's devices: Valid, New, Restore -/
theorem zg4(d:Dv)(v:Value)(R:RO)(h:EdsV R v d.edits):zaa Tryz.prog 113 [.agg (zai d v).toArray] R fun _ r=>r = .bool (zah d):=by
 have hdl:d.edits.length≤1000000000:=by obtain⟨_,_,_,_,h⟩:=h;exact h
 obtain⟨a,cap,rfl,hc,hf⟩:=PlOK.of h
 simp only[zai]
 refine zac mix Tryz.func113 comp113 (by simp[Tryz.ntmps113]) ?_;simp only[go_sem,↓reduceIte,Qa,vc113,rs113]
 have hhdr:zah d=true→0≤d.id∧d.id≤15∧0≤d.epoch∧d.epoch≤63∧1≤d.next∧d.next≤17179869184∧d.edits.length≤4096:=fun hT=>by
  unfold zah hdrOK at hT
  simp only[Bool.and_eq_true,decide_eq_true_eq] at hT
  exact hT.1.1
 have hbad:¬ (0≤d.id∧d.id≤15∧0≤d.epoch∧d.epoch≤63∧1≤d.next∧d.next≤17179869184∧d.edits.length≤4096)→Value.bool false=Value.bool (zah d):=fun hn=>by
  cases hv:zah d with
  |false=>rfl
  |true=>exact absurd (hhdr hv) hn
 refine⟨fun q1=>⟨fun q2=>⟨fun q3=>⟨fun q4=>⟨fun q5=>⟨fun q6=>⟨fun q7=>hbad (by omega),fun q7=>?_⟩,fun q6=>hbad (by omega)⟩,fun q5=>hbad (by omega)⟩,fun q4=>hbad (by omega)⟩,fun q3=>hbad (by omega)⟩,fun q2=>hbad (by omega)⟩,fun q1=>hbad (by omega)⟩
 have hall:∀(i:Nat) (hi:i<d.edits.length),¬ (okEd d.next d.edits[i]=true)→Value.bool false=Value.bool (zah d):=fun i hi hn=>by
  cases hv:zah d with
  |false=>rfl
  |true =>
   unfold zah at hv
   simp only[Bool.and_eq_true,decide_eq_true_eq,List.all_eq_true] at hv
   exact absurd (hv.1.2 _ (List.getElem_mem hi)) hn
 have hsrt:∀(i:Nat) (hi:i<d.edits.length),0<i→¬ lessD (d.edits[i-1]'(by omega)) d.edits[i]=true→Value.bool false=Value.bool (zah d):=fun i hi h0 hn=>by
  cases hv:zah d with
  |false=>rfl
  |true =>
   unfold zah at hv
   simp only[Bool.and_eq_true,decide_eq_true_eq] at hv
   exact absurd (List.pairwise_iff_getElem.1 hv.2 (i-1) i (by omega) hi (by omega)) hn
 clear hbad hhdr
 refine zaj Nat (fun i=>[(3,.val (.int .i64 i)),(1,.loc 0 0)])
  (fun _=>[.box [.val (.int .i64 d.id),.val (.int .i64 d.epoch),.val (.int .i64 d.next),.val (.slice a d.edits.length cap)]])
  (fun i _=>i≤d.edits.length∧(∀e∈d.edits.take i,okEd d.next e=true)∧zae (d.edits.take i)) (fun i=>d.edits.length-i) 0 ?_ ?_ ?_ ?_
 ·(try simp only[go_sem,↓reduceIte,Qa])<;>(repeat' (first|rfl|trivial|constructor|(intro h;exact absurd rfl h)))
 ·try simp only[go_sem,Qe,Qf]
 ·exact⟨Nat.zero_le _,by simp,List.Pairwise.nil⟩
 rintro i env R1 hle1 hE ⟨hi,hok,hso⟩
 (simp only[go_sem] at hE;obtain⟨e3,e1⟩:=hE;simp only[go_sem,↓reduceIte,Qa,Qb,e3,e1];dsimp only at *)
 refine⟨fun hlt=>?_,fun hge=>?_⟩
 ·have hlt':i<d.edits.length:=by omega
  obtain⟨ad,p,had,hp1,hR,hpok⟩:=hf i hlt'
  have hcells:∀j u,(p.ed.cells)[j]?=some u→R1 ((ad.add (i*13)).add j) u:=fun j u hj=>hle1 _ _ (hR j u hj)
  have htk:=List.take_succ_eq_append_getElem hlt'
  have hA:=hall i hlt'
  rw[←hp1] at htk hA
  refine⟨by omega,vat ad had ?_⟩
  try simp only[go_sem,↓reduceIte]
  refine zaf p.ed.cells rfl hcells ?_
  simp only[go_sem,↓reduceIte,Qa,Qb,Ed.cells,Pl.ed,De.ed]
  refine vcall (zl8 p.ed R1) ?_
  rintro R2 v hle2 rfl
  rw[zc6 p hpok.len]
  simp only[go_sem,↓reduceIte,Qa,Qe,Qf,e3,e1]
  refine⟨fun hv=>?_,fun hv=>hA (by rw[zb0];simp[hv])⟩
  have hsq:=zb2 hv
  have htd:p.1.seq.tdiv 64=p.1.seq/64:=zaN (by omega) (by omega)
  have hnew:p.1.seq/64<d.next→(0<i→lessD (d.edits[i-1]'(by omega)) p.1=true)→(∀e∈d.edits.take (i+1),okEd d.next e=true)∧zae (d.edits.take (i+1)):=fun hn hl=>by
   rw[htk]
   refine⟨fun e he=>?_,List.pairwise_append.2 ⟨hso,List.pairwise_singleton _ _,fun x hx y hy=>?_⟩⟩
   ·rcases List.mem_append.1 he with he|he
    ·exact hok e he
    ·simp only[List.mem_cons,List.not_mem_nil,or_false] at he;subst he
     rw[zb0];exact⟨hv,hn⟩
   ·simp only[List.mem_cons,List.not_mem_nil,or_false] at hy;subst hy
    obtain⟨j,hj,rfl⟩:=List.mem_take_iff_getElem.1 hx
    by_cases hji:j=i-1
    ·subst hji;exact hl (by omega)
    ·have h1:=List.pairwise_iff_getElem.1 hso j (i-1) (by simp;omega) (by simp;omega) (by omega)
     rw[List.getElem_take,List.getElem_take] at h1
     exact lessD_trans h1 (hl (by omega))
  refine⟨fun hpos=>?_,fun hz=>?_⟩
  ·obtain⟨ad',q,had',hq1,hR',hqok⟩:=hf (i-1) (by omega)
   have hti:((i:Int)-1).toNat=i-1:=by omega
   have hS:=hsrt i hlt' (by omega)
   rw[←hp1,←hq1] at hS
   refine⟨_,W.in64 (by omega),by omega,by omega,?_⟩
   rw[hti]
   refine vat ad' had' ?_
   try simp only[go_sem,↓reduceIte,Qa]
   refine zaf q.ed.cells rfl (fun j u hj=>hle2 _ _ (hle1 _ _ (hR' j u hj))) ?_
   simp only[go_sem,↓reduceIte,Qa,Qb,Ed.cells,Pl.ed,De.ed]
   refine vcall (rLess q.ed p.ed R2) ?_
   rintro R3 v hle3 rfl
   have hle:lessE q.ed p.ed=lessD q.1 p.1:=rfl
   rw[hle]
   simp only[go_sem,↓reduceIte,Qa,Qe,Qf,e3,e1]
   refine⟨fun hl=>?_,fun hl=>hS (by rw[hl];simp)⟩
   refine⟨by omega,_,W.in64 (by rw[htd];omega),?_⟩
   rw[htd]
   refine⟨fun hn=>hA (by rw[zb0];omega),fun hn=>?_⟩
   refine⟨_,W.in64 (by omega),i+1,by omega,by constructor,by omega,?_⟩
   exact hnew (by omega) (fun _=>by rw[←hq1];exact hl)
  ·obtain rfl:i=0:=by omega
   refine⟨by omega,_,W.in64 (by rw[htd];omega),?_⟩
   rw[htd]
   refine⟨fun hn=>hA (by rw[zb0];omega),fun hn=>?_⟩
   refine⟨_,W.in64 (by omega),1,by omega,by constructor,by omega,?_⟩
   exact hnew (by omega) (fun h=>absurd h (by omega))
 ·obtain rfl:i=d.edits.length:=by omega
  rw[List.take_length] at hok hso
  have:zah d=true:=by
   unfold zah hdrOK
   simp only[Bool.and_eq_true,decide_eq_true_eq,List.all_eq_true]
   exact⟨⟨by omega,hok⟩,hso⟩
  rw[this]
theorem zfx(d:Dv)(v:Value)(ep:Int)(R:RO)(h:EdsV R v d.edits):zaa Tryz.prog 81 [.agg (zai d v).toArray,.int .i64 ep] R fun R' r=>DvR R' r (za1 d ep):=by
 have hV:=zg4 d v
 have h0:=h
 obtain⟨a,cap,rfl,hc,hf⟩:=h.form
 simp only[zai] at hV ⊢
 refine zac mix Tryz.func81 comp81 (by simp[Tryz.ntmps81]) ?_;simp only[go_sem,↓reduceIte,Qa,Qb,vc81,rs81]
 refine vcall (hV R h0) ?_
 rintro R1 r hle1 rfl
 try simp only[go_sem,↓reduceIte,Qa,Qb,Qd]
 unfold za1
 refine⟨fun hv=>⟨fun h1=>⟨fun h2=>?_,fun h2=>⟨fun h3=>?_,fun h3=>?_⟩⟩,fun h1=>?_⟩,fun hv=>?_⟩
 ·rw[if_neg (by omega)];exact rfl
 ·rw[if_pos ⟨hv,by omega,by omega⟩,if_pos h3];exact rfl
 ·rw[if_pos ⟨hv,by omega,by omega⟩,if_neg h3]
  exact⟨_,rfl,h0.mono hle1⟩
 ·rw[if_neg (by omega)];exact rfl
 ·rw[if_neg (by rw[hv];simp)];exact rfl
theorem zpw(l:List De)(v:Value)(d:De)(a:Option Addr)(n c:Nat)(R:RO)(h:EdsV R v l):zaa Tryz.prog 114 [v,.agg ((d.ed a n c).cells).toArray] R fun _ u=>(u = .int .i64 (-1)∧∀x∈l,keyEq d x=false)∨∃(i:Nat) (hi:i<l.length),u = .int .i64 i∧keyEq d l[i]=true:=by
 obtain⟨la,lc,rfl,hc,hf⟩:=h.form
 obtain⟨_,_,_,_,hl⟩:=h
 simp only[Ed.cells,De.ed]
 refine zac mix Tryz.func114 comp114 (by simp[Tryz.ntmps114]) ?_;simp only[go_sem,vc114,rs114]
 refine zaj Nat (fun i=>[(5,.val (.int .i64 i)),(0,.val (.slice la l.length lc)),(3,.loc 0 0)])
  (fun i=>[.box [.val (.int .i64 d.kind),.val (.int .i64 d.day),.val (.int .i64 d.device),.val (.int .i64 d.seq),.val (.int .i64 d.mv.day),.val (.bool d.mv.drop),.val (.int .i64 d.mv.toDay),.val (.int .i64 d.mv.minute),.val (.int .i64 d.mv.length),.val (.int .i64 d.minute),.val (.int .i64 d.length),.val (.slice a n c),.val (.string d.zone)]])
  (fun i _=>i≤l.length∧∀j (hj:j<l.length),j<i→keyEq d l[j]=false) (fun i=>l.length-i) 0 ?_ ?_ ?_ ?_
 ·(try simp only[go_sem,↓reduceIte,Qa,reduceCtorEq])<;>(repeat' (first|rfl|trivial|constructor|(intro h;exact absurd rfl h)))
 ·try simp only[go_sem,Qe,Qf]
 ·exact⟨Nat.zero_le _,fun j _ hj=>absurd hj (by omega)⟩
 rintro i env R1 hle1 hE ⟨hi,hno⟩
 (simp only[go_sem] at hE;obtain⟨e5,e0,e3⟩:=hE;simp only[go_sem,↓reduceIte,Qa,Qb,reduceCtorEq,e5,e0];dsimp only at *)
 refine⟨fun hlt=>?_,fun hge=>?_⟩
 ·have hi':i<l.length:=by omega
  obtain⟨ad,ra,rn,rc,had,hR,_⟩:=hf i hi'
  have hnext:keyEq d l[i]=false→∀j (hj:j<l.length),j<i+1→keyEq d l[j]=false:=fun hk j hj hji=>by
   by_cases h:j=i
   ·subst h;exact hk
   ·exact hno j hj (by omega)
  have hkq:keyEq d l[i]=(decide (l[i].device=d.device)&&decide (l[i].seq=d.seq)):=by
   rw[Bool.eq_iff_iff,keyEq_iff]
   simp only[Bool.and_eq_true,decide_eq_true_eq]
   exact⟨fun h=>⟨h.1.symm,h.2.symm⟩,fun h=>⟨h.1.symm,h.2.symm⟩⟩
  refine⟨by omega,vat ad had ?_⟩
  try simp only[go_sem,↓reduceIte,Qb]
  refine vload (.int .i64 l[i].device) (hle1 _ _ (hR 2 _ rfl)) ?_
  simp only[go_sem,↓reduceIte,Qa,Qe,Qf,reduceCtorEq,e5,e0,e3]
  refine⟨fun h1=>⟨by omega,vat ad had ?_⟩,fun h1=>?_⟩
  ·try simp only[go_sem,↓reduceIte,Qa,Qb]
   refine vload (.int .i64 l[i].seq) (hle1 _ _ (hR 3 _ rfl)) ?_
   simp only[go_sem,↓reduceIte,Qa,Qe,Qf,reduceCtorEq,e5,e0,e3]
   refine⟨fun h2=>?_,fun h2=>?_⟩
   ·rw[decide_eq_true h1,decide_eq_true h2] at hkq
    exact .inr ⟨i,hi',rfl,hkq⟩
   ·rw[decide_eq_true h1,decide_eq_false h2] at hkq
    refine⟨_,W.in64 (by omega),i+1,by omega,?_,by omega,hnext hkq⟩
    try simp only[go_sem,↓reduceIte,Qa,Qb,Qc,Qd,Qe,Qf,reduceCtorEq]
    rfl
  ·rw[decide_eq_false h1] at hkq
   refine⟨_,W.in64 (by omega),i+1,by omega,?_,by omega,hnext hkq⟩
   try simp only[go_sem,↓reduceIte,Qa,Qb,Qc,Qd,Qe,Qf,reduceCtorEq]
   rfl
 ·refine .inl fun x hx=>?_
  obtain⟨j,hj,rfl⟩:=List.mem_iff_getElem.1 hx
  exact hno j hj (by omega)
/-! ### Inserting, as the reference does: plain facts about edits -/
theorem zl9{α:Type}{p:α→Bool}:∀{l:List α} {a:α},a∈l.takeWhile p→p a=true
 |[],a,h=>by simp at h
 |x::l,a,h=>by
  rw[List.takeWhile_cons] at h
  split at h
  ·rcases List.mem_cons.1 h with rfl|h
   ·assumption
   ·exact zl9 h
  ·simp at h
theorem zma{α:Type}(p:α→Bool):∀l:List α,l.drop (l.takeWhile p).length=l.dropWhile p
 |[]=>rfl
 |x::l=>by
  rw[List.takeWhile_cons,List.dropWhile_cons]
  split
  ·rw[List.length_cons,List.drop_succ_cons];exact zma p l
  ·rfl
def insAt(out:List De)(d:De):Nat:=(out.takeWhile fun q=>lessD q d).length
def insD(out:List De)(d:De):List De:=if(out[insAt out d]?).any (fun q=>keyEq q d)=true then out else out.take (insAt out d)++d::out.drop (insAt out d)
theorem zjJ(out:List De)(d:De):insAt out d≤out.length:=(List.takeWhile_prefix _).length_le
theorem zgz(out:List De)(d:De):out.take (insAt out d)=out.takeWhile fun q=>lessD q d:=(List.prefix_iff_eq_take.1 (List.takeWhile_prefix _)).symm
theorem zkt{out:List De}{d:De}{i:Nat}(h:i<insAt out d)(hi:i<out.length):lessD out[i] d=true:=by
 have h1:out[i]∈out.takeWhile fun q=>lessD q d:=by
  rw[←zgz]
  rw[List.mem_take_iff_getElem]
  exact⟨i,by omega,rfl⟩
 exact zl9 (p:=fun q=>lessD q d) h1
theorem zhK{out:List De}{d:De}(h:insAt out d<out.length):lessD out[insAt out d] d=false:=by
 have h2:out.drop (insAt out d)=out.dropWhile fun q=>lessD q d:=zma _ out
 have h3:(out.dropWhile fun q=>lessD q d)≠[]:=by
  intro e
  have:=congrArg List.length (h2.trans e)
  simp at this;omega
 have h4:=List.head_dropWhile_not (fun q=>lessD q d) h3
 have h5:(out.dropWhile fun q=>lessD q d).head h3=out[insAt out d]:=by
  simp only[←h2]
  rw[List.head_drop]
 rw[h5] at h4
 simpa using h4
theorem ziJ{out:List De}{d:De}(h:zae out):zae (insD out d):=by
 unfold insD
 split
 ·exact h
 ·rename_i hk
  have hta:∀q∈out.take (insAt out d),lessD q d=true:=fun q hq=>by
   rw[zgz] at hq
   exact zl9 (p:=fun q=>lessD q d) hq
  have hdr:∀q∈out.drop (insAt out d),lessD d q=true:=fun q hq=>by
   by_cases hlt:insAt out d<out.length
   ·have h1:=zhK hlt
    rw[List.drop_eq_getElem_cons hlt] at hq
    have h2:lessD d out[insAt out d]=true:=by
     cases h3:lessD d out[insAt out d] with
     |true=>rfl
     |false =>
      exfalso
      rw[List.getElem?_eq_getElem hlt] at hk
      exact hk (by simpa using zcN h1 h3)
    rcases List.mem_cons.1 hq with rfl|hq
    ·exact h2
    ·have h4:zae (out.drop (insAt out d)):=List.Pairwise.sublist (List.drop_sublist _ _) h
     rw[List.drop_eq_getElem_cons hlt] at h4
     exact lessD_trans h2 ((List.pairwise_cons.1 h4).1 q hq)
   ·rw[List.drop_eq_nil_of_le (by omega)] at hq;simp at hq
  have hs:=h
  rw[←List.take_append_drop (insAt out d) out] at hs
  have hs':=List.pairwise_append.1 hs
  refine List.pairwise_append.2 ⟨hs'.1,List.pairwise_cons.2 ⟨hdr,hs'.2.1⟩,fun a ha b hb=>?_⟩
  rcases List.mem_cons.1 hb with rfl|hb
  ·exact hta a ha
  ·exact hs'.2.2 a ha b hb
theorem zoi{out:List De}{d:De}(hc:∀q∈out,keyEq q d=true→q=d)(x:De):x∈insD out d↔x=d∨x∈out:=by
 unfold insD
 split
 ·rename_i hk
  have hlt:insAt out d<out.length:=by
   rcases Nat.lt_or_ge (insAt out d) out.length with h|h
   ·exact h
   ·rw[List.getElem?_eq_none h] at hk;simp at hk
  rw[List.getElem?_eq_getElem hlt] at hk
  have:=hc _ (List.getElem_mem hlt) (by simpa using hk)
  refine⟨.inr,fun h=>?_⟩
  rcases h with rfl|h
  ·rw[←this];exact List.getElem_mem hlt
  ·exact h
 ·have:x∈out↔x∈out.take (insAt out d)∨x∈out.drop (insAt out d):=by rw[←List.mem_append,List.take_append_drop]
  rw[List.mem_append,List.mem_cons,this]
  constructor
  ·rintro(h|h|h)
   ·exact .inr (.inl h)
   ·exact .inl h
   ·exact .inr (.inr h)
  ·rintro(h|h|h)
   ·exact .inr (.inl h)
   ·exact .inl h
   ·exact .inr (.inr h)
/-! ### The reference's insertion -/
def insR(l:List De)(e:De):List De:=l.take (insAt l e)++e::l.drop (insAt l e)
theorem zqo{l:List De}{e:De}(h:∀q∈l,keyEq q e=false):insR l e=insD l e:=by
 unfold insR insD
 rw[if_neg]
 intro hk
 rcases Nat.lt_or_ge (insAt l e) l.length with h1|h1
 ·rw[List.getElem?_eq_getElem h1] at hk
  have:=h _ (List.getElem_mem h1)
  simp[this] at hk
 ·rw[List.getElem?_eq_none h1] at hk;simp at hk
theorem zoj(l:List De)(e:De):(insR l e).length=l.length+1:=by
 have:=zjJ l e
 unfold insR
 rw[List.length_append,List.length_take,List.length_cons,List.length_drop];omega
theorem zhL(l:List De)(e:Pl)(lv:Value)(R:RO)(h:EdsV R lv l)(he:PlOK R e)(hl:l.length≤100000):zaa Tryz.prog 116 [lv,e.ed.val] R fun R' r=>EdsV R' r (insR l e.1):=by
 have hL:=fun p R'=>rLess p e.ed R'
 obtain⟨a,cap,rfl,hc,hf⟩:=PlOK.of h
 simp only[Ed.val,Pl.ed,De.ed] at hL ⊢
 have hale:=zjJ l e.1
 refine zac mix Tryz.func116 comp116 (by simp[Tryz.ntmps116]) ?_;simp only[go_sem,vc116,rs116]
 refine cutL (fun s'=>∃env R1 ps,s'=⟨env,[.box (boxc e.ed.cells),gb 52 13 (rowP ps)],R1⟩∧RO.le R R1∧env 6 = .val (.int .i64 (insAt l e.1))∧env 0 = .val (.slice a l.length cap)∧env 3 = .loc 0 0∧env 5=gs 1 ps.length∧ps.map (·.1)=l.take (insAt l e.1)∧∀p∈ps,PlOK R1 p) ?_ ?_
 ·refine zal (Nat×List Pl) (fun x=>[(6,.val (.int .i64 x.1)),(0,.val (.slice a l.length cap)),(3,.loc 0 0),(5,gs 1 x.2.length)]) (fun x=>[.box (boxc e.ed.cells),gb 52 13 (rowP x.2)])
   (fun x R=>x.1≤insAt l e.1∧x.2.map (·.1)=l.take x.1∧x.2.length=x.1∧∀p∈x.2,PlOK R p) (fun x=>l.length-x.1) (0,[]) [] ?_ ?_ ?_ ?_
  ·(try simp only[go_sem,↓reduceIte,Qa,Qb,reduceCtorEq])<;>(repeat' (first|rfl|trivial|constructor|(intro h;exact absurd rfl h)))
  ·try simp only[go_sem,Qb,Qe,Qf]
   exact zcd _ _
  ·exact⟨Nat.zero_le _,rfl,rfl,by simp⟩
  rintro⟨i,ps⟩ env R1 hle1 hE ⟨hi,hps,hpl,hpo⟩
  simp only[] at hi hps hpl hpo
  simp only[boxc,Ed.cells,Pl.ed,De.ed,List.map_cons,List.map_nil] at hE ⊢
  (simp only[go_sem] at hE;obtain⟨e6,e0,e3,e5⟩:=hE;simp only[go_sem,↓reduceIte,Qa,Qb,reduceCtorEq,e6,e0];dsimp only at *)
  refine⟨fun hlt=>?_,fun hge=>?_⟩
  ·have hlt':i<l.length:=by omega
   obtain⟨ad,p,had,hp1,hR,hpok⟩:=hf i hlt'
   have hcells:∀j u,(p.ed.cells)[j]?=some u→R1 ((ad.add (i*13)).add j) u:=fun j u hj=>hle1 _ _ (hR j u hj)
   refine⟨by omega,vat ad had ?_⟩
   try simp only[go_sem,↓reduceIte,Qa]
   refine zaf p.ed.cells rfl hcells ?_
   simp only[go_sem,↓reduceIte,Qa,Qb,Ed.cells,Pl.ed,De.ed,e3]
   have hLp:=hL p.ed R1
   simp only[Pl.ed,De.ed] at hLp
   refine vcall hLp ?_
   rintro R2 v hle2 rfl
   have hle:lessE p.ed e.ed=lessD p.1 e.1:=rfl
   simp only[Pl.ed,De.ed] at hle
   rw[hle]
   try simp only[go_sem,↓reduceIte,Qa,reduceCtorEq,e6,e0,e5]
   refine⟨fun hl=>?_,fun hl=>?_⟩
   ·refine⟨by omega,vat ad had ?_⟩
    try simp only[go_sem,↓reduceIte]
    refine zaf p.ed.cells rfl (fun j u hj=>hle2 _ _ (hcells j u hj)) ?_
    simp only[go_sem,↓reduceIte,Qa,Qb,Qc,Ed.cells,Pl.ed,De.ed]
    refine vgrow (rowP ps) (fun h0=>by rw[gb_ne h0];rfl) (fun h0=>by rw[h0,zbv];rfl) (by rw[zaH]) (by omega) (by omega) (by omega) ?_
    simp only[go_sem,↓reduceIte,Qa,Qb,Qe,Qf,reduceCtorEq,e6,e0,e3]
    refine⟨_,W.in64 (by omega),(i+1,ps++[p]),[0,3],?_⟩
    try simp only[go_sem,Qa]
    refine⟨by omega,(by repeat' (first|rfl|exact fun _=>by rw[zaF];rfl|exact fun h=>gb_ne h|constructor)),(by first|decide|exact⟨zcd _ _,by decide⟩),?_,by rw[List.map_append,hps,List.take_succ_eq_append_getElem hlt',←hp1];rfl,by simp[hpl],fun q hq=>?_⟩
    ·rcases Nat.lt_or_ge i (insAt l e.1) with h1|h1
     ·exact h1
     ·exfalso
      obtain rfl:i=insAt l e.1:=by omega
      have:=zhK (by omega:insAt l e.1<l.length)
      rw[←hp1,hl] at this
      cases this
    ·rcases List.mem_append.1 hq with hq|hq
     ·exact(hpo q hq).mono hle2
     ·simp only[List.mem_cons,List.not_mem_nil,or_false] at hq
      subst hq
      exact hpok.mono (RO.le_trans hle1 hle2)
   ·have hia:i=insAt l e.1:=by
     rcases Nat.lt_or_ge i (insAt l e.1) with h1|h1
     ·have:=zkt h1 hlt'
      rw[←hp1,hl] at this;cases this
     ·omega
    rw[←hia]
    exact⟨_,_,ps,rfl,RO.le_trans hle1 hle2,e6,e0,e3,e5,hps,fun q hq=>(hpo q hq).mono hle2⟩
  ·have hia:i=insAt l e.1:=by omega
   rw[←hia]
   exact⟨_,_,ps,rfl,hle1,e6,e0,e3,e5,hps,hpo⟩
 rintro s' ⟨env,R1,ps,rfl,hle1,e6,e0,e3,e5,hps,hpo⟩
 have hpl:ps.length=insAt l e.1:=by
  have:=congrArg List.length hps
  rw[List.length_map,List.length_take] at this;omega
 simp only[boxc,Ed.cells,Pl.ed,De.ed,List.map_cons,List.map_nil]
 try simp only[go_sem,↓reduceIte,Qa,Qb,Qc,e3,e5]
 refine vgrow (rowP ps) (fun h0=>by rw[gb_ne h0];rfl) (fun h0=>by rw[h0,zbv];rfl) (by rw[zaH]) (by omega) (by omega) (by omega) ?_
 try simp only[go_sem,↓reduceIte,Qa,Qb,reduceCtorEq,e6,e0]
 refine⟨insAt l e.1,l.length,rfl,rfl,by omega,by omega,?_⟩
 have hsub:=EdsV.sub (h.mono hle1) hale (Nat.le_refl _)
 rw[List.take_length] at hsub
 have hdl:(l.drop (insAt l e.1)).length=l.length-insAt l e.1:=List.length_drop
 rw[←hdl] at hsub ⊢
 obtain⟨a2,cap2,qs,e1,hqs,hqo,hsrc⟩:=hsub.src
 obtain⟨rfl,_,rfl⟩:=Value.slice.inj e1
 refine hsrc ?_
 try simp only[go_sem,↓reduceIte,Qa,Qb]
 refine vappO (rowP (ps++[e])) (by rw[zaF];rfl) (by rw[zaH];simp) (by rw[hdl];omega) ?_
 try simp only[go_sem,↓reduceIte]
 rw[←zjo]
 intro bb bc R2 hle2 hrow hcap _
 try simp only[go_sem,↓reduceIte,Qa,Qb,Qc,Qd,Qe,Qf,reduceCtorEq]
 have hlen:ps.length+1+(l.drop (insAt l e.1)).length=(ps++[e]++qs).length:=by
  have:=congrArg List.length hqs
  rw[List.length_map] at this
  simp only[List.length_append,List.length_cons,List.length_nil];omega
 have hm:insR l e.1=(ps++[e]++qs).map (·.1):=by
  unfold insR
  rw[List.map_append,List.map_append,hps,hqs];simp
 rw[hlen,hm]
 refine EdsV.row hrow (by rw[zjo,List.length_append];exact hcap) (fun q hq=>?_) (by rw[←hlen,hdl];omega)
 rcases List.mem_append.1 hq with hq|hq
 ·rcases List.mem_append.1 hq with hq|hq
  ·exact(hpo q hq).mono hle2
  ·simp only[List.mem_cons,List.not_mem_nil,or_false] at hq
   subst hq
   exact he.mono (RO.le_trans hle1 hle2)
 ·exact(hqo q hq).mono hle2
/-! ### Add, Sync of the reference -/
theorem rAddD(d:Dv)(v:Value)(e:De)(ra:Option Addr)(rn rc:Nat)(R:RO)(h:EdsV R v d.edits)(he:RuleV R (.slice ra rn rc) e.rule) :
  zaa Tryz.prog 82 [.agg (zai d v).toArray,.agg ((e.ed ra rn rc).cells).toArray] R fun R' r=>DvR R' r (dvAdd d e):=by
 have hV:=zg4 d v
 have h0:=h
 have hrn:=he.len
 have hVe:=fun R'=>zl8 ((bareD e).ed ra rn rc) R'
 obtain⟨vb,hvb⟩:∃vb,zak (bareD e)=vb:=⟨_,rfl⟩
 have hve:zbg ((bareD e).ed ra rn rc)=vb:=(zc6 (bareD e,ra,rn,rc) hrn).trans hvb
 obtain⟨a,cap,rfl,hc,_⟩:=h.form
 simp only[Ed.val,De.ed,bareD] at hVe hve
 simp only[zai,Ed.cells,De.ed] at hV ⊢
 refine zac mix Tryz.func82 comp82 (by simp[Tryz.ntmps82]) ?_;simp only[go_sem,↓reduceIte,Qa,Qb,Qd,vc82,rs82]
 refine vcall (hV R h0) ?_
 rintro R1 r hle1 rfl
 unfold dvAdd
 rw[hvb]
 cases hv:zah d with
 |false =>
  try simp only[go_sem,↓reduceIte,Qa,Qb]
  try rw[if_neg (by simp)]
  try exact rfl
 |true =>
 have hh:=zaK hv
 try simp only[go_sem,↓reduceIte,Qa,Qb]
 refine vcall (hVe R1) ?_
 rintro R2 r hle2 rfl
 rw[hve]
 cases vb with
 |false =>
  try simp only[go_sem,↓reduceIte,Qa,Qb]
  try rw[if_neg (by simp)]
  try exact rfl
 |true =>
 try simp only[go_sem,↓reduceIte,Qa,Qb,Qd]
 refine⟨fun h1=>⟨fun h2=>?_,fun h2=>?_⟩,fun h1=>?_⟩
 ·rw[if_pos (.inr h2)];exact rfl
 ·rw[if_neg (show ¬ (4096≤d.edits.length∨17179869184≤d.next) by omega)]
  refine⟨_,W.in64 (by omega),_,W.in64 (by omega),?_⟩
  have hle02:=RO.le_trans hle1 hle2
  obtain⟨a',cap',ps,e1,hps,hpo,hsrc⟩:=(h0.mono hle02).src
  obtain⟨rfl,_,rfl⟩:=Value.slice.inj e1
  have hpl:ps.length=d.edits.length:=by rw[←hps,List.length_map]
  refine hsrc ?_
  try simp only[go_sem,↓reduceIte,Qa,Qb]
  refine vappO [] rfl rfl (by omega) ?_
  try simp only[go_sem,↓reduceIte,Qa,Qb,Qc]
  refine vappO (rowP ps) rfl (by rw[zaH,hpl]) (by omega) ?_
  try simp only[go_sem,↓reduceIte,Qa,Qb,Qd]
  refine⟨_,W.in64 (by omega),?_⟩
  try simp only[go_sem,↓reduceIte,Qa,Qb,Qc,Qd,Qe,Qf,reduceCtorEq]
  intro bb bc R3 hle3 hrow hcap _
  try simp only[go_sem,↓reduceIte,Qa,Qb,Qc,Qd,Qe,Qf,reduceCtorEq]
  refine⟨_,rfl,?_⟩
  have hrow':RowIn R3 bb (rowP (ps++[(zbC d e,ra,rn,rc)])):=by rw[zaF];exact hrow
  have:=EdsV.row hrow' (by rw[zaF,List.length_append];exact hcap) (fun q hq=>?_) (by rw[List.length_append,hpl];show d.edits.length+1≤_;omega)
  ·rw[List.map_append,hps,List.length_append,hpl] at this
   exact this
  ·rcases List.mem_append.1 hq with hq|hq
   ·exact(hpo q hq).mono hle3
   ·simp only[List.mem_cons,List.not_mem_nil,or_false] at hq
    subst hq
    exact he.mono (RO.le_trans hle02 hle3)
 ·rw[if_pos (.inl (by omega))];exact rfl
/-! ### The reference's Sync: plain -/
theorem zfy:∀(l a:List De),zae a→zae l→(∀x∈l,∀y∈a,keyEq x y=false)→zae (l.foldl insR a)∧∀x,x∈l.foldl insR a↔x∈a∨x∈l
 |[],a,ha,_,_=>⟨ha,fun x=>by simp⟩
 |e::l,a,ha,hl,hk=>by
  have hl':=List.pairwise_cons.1 hl
  have hne:∀q∈a,keyEq q e=false:=fun q hq=>zbl (hk e (by simp) q hq)
  have hi:=zqo hne
  have hm:=zoi (out:=a) (d:=e) (fun q hq h=>by rw[hne q hq] at h;cases h)
  have hs:=ziJ (out:=a) (d:=e) ha
  rw[←hi] at hs
  have ih:=zfy l (insR a e) hs hl'.2 (fun x hx y hy=>by
   rw[hi] at hy
   rcases(hm y).1 hy with rfl|hy
   ·exact zbl (zaE (hl'.1 x hx))
   ·exact hk x (by simp[hx]) y hy)
  rw[List.foldl_cons]
  refine⟨ih.1,fun x=>?_⟩
  rw[ih.2,hi,hm,List.mem_cons]
  constructor
  ·rintro((h|h)|h)
   ·exact .inr (.inl h)
   ·exact .inl h
   ·exact .inr (.inr h)
  ·rintro(h|h|h)
   ·exact .inl (.inr h)
   ·exact .inl (.inl h)
   ·exact .inr h
theorem zgA{a b:List De}{x:De}:x∈freshD a b↔x∈b∧∀y∈a,keyEq x y=false:=by
 unfold freshD
 rw[List.mem_filter]
 refine and_congr_right fun _=>?_
 constructor
 ·intro h y hy
  cases hk:keyEq x y with
  |false=>rfl
  |true =>
   have:a.any (keyEq x)=true:=List.any_eq_true.2 ⟨y,hy,hk⟩
   rw[this] at h;cases h
 ·intro h
  have:a.any (keyEq x)=false:=List.any_eq_false.2 fun y hy=>by rw[h y hy];simp
  rw[this];rfl
theorem zhM{a b:List De}(ha:zae a)(hb:zae b):(freshD a b).foldl insR a=zcD a b:=by
 have hf:zae (freshD a b):=List.Pairwise.sublist List.filter_sublist hb
 have h:=zfy (freshD a b) a ha hf fun x hx=>(zgA.1 hx).2
 have hu:=zcb ha hb
 exact zae.ext h.1 hu.1 fun x=>by rw[h.2,hu.2,zgA]
theorem zer:∀(l a:List De),(l.foldl insR a).length=a.length+l.length
 |[],a=>rfl
 |e::l,a=>by rw[List.foldl_cons,zer l,zoj,List.length_cons];omega
def ouSV(n:Nat):Option (Option Addr×Nat)→SV
 |none => .sl 4 n
 |some x => .val (.slice x.1 n x.2)
def ouBlk(ps:List Pl):Option (Option Addr×Nat)→Blk
 |none => .row 52 13 (rowP ps)
 |some _ => .dead
theorem zfz(a b:List De){i:Nat}(hi:i<b.length):freshD a (b.take (i+1))=freshD a (b.take i)++if a.any (keyEq b[i])=true then[] else[b[i]]:=by
 unfold freshD
 rw[List.take_succ_eq_append_getElem hi,List.filter_append]
 cases hany:a.any (keyEq b[i])<;>simp[hany]
theorem zd6(d o:Dv)(dv ov:Value)(R:RO)(h:EdsV R dv d.edits)(k:EdsV R ov o.edits):zaa Tryz.prog 80 [.agg (zai d dv).toArray,.agg (zai o ov).toArray] R fun R' r=>DvR R' r (zaC d o):=by
 have hV:=zg4 d dv
 have hW:=zg4 o ov
 have h0:=h
 have k0:=k
 obtain⟨a,cap,rfl,hc,hf⟩:=PlOK.of h
 obtain⟨b,bcap,rfl,hbc,hbf⟩:=PlOK.of k
 simp only[zai] at hV hW ⊢
 refine zac mix Tryz.func80 comp80 (by simp[Tryz.ntmps80]) ?_;simp only[go_sem,↓reduceIte,Qa,Qb,vc80,rs80]
 refine vcall (hV R h0) ?_
 rintro R1 r hle1 rfl
 unfold zaC
 cases hv:zah d with
 |false =>
  try simp only[go_sem,↓reduceIte,Qa,Qb]
  try rw[if_neg (by simp)]
  try exact rfl
 |true =>
 try simp only[go_sem,↓reduceIte,Qa,Qb]
 refine vcall (hW R1 (k0.mono hle1)) ?_
 rintro R2 r hle2 rfl
 cases hw:zah o with
 |false =>
  try simp only[go_sem,↓reduceIte,Qa,Qb]
  try rw[if_neg (by simp)]
  try exact rfl
 |true =>
 have hhd:=zaK hv
 have hho:=zaK hw
 have had:=zas hv
 have hao:=zas hw
 have hle02:=RO.le_trans hle1 hle2
 try simp only[go_sem,↓reduceIte,Qa,Qb]
 obtain⟨a',cap',ps0,e1,hps0,hpo0,hsrc⟩:=(h0.mono hle02).src
 obtain⟨rfl,_,rfl⟩:=Value.slice.inj e1
 have hpl0:ps0.length=d.edits.length:=by rw[←hps0,List.length_map]
 refine hsrc ?_
 try simp only[go_sem,↓reduceIte,Qa,Qb]
 refine vappO [] rfl rfl (by omega) ?_
 try simp only[go_sem,↓reduceIte,Qa,Qb]
 refine zal (Nat×Int×List De×Option (Option Addr×Nat)×List Pl) (fun x=>[(7,.val (.int .i64 x.1)),(2,.loc 0 0),(3,.loc 1 0),(4,.loc 2 0),(6,.loc 3 0)])
  (fun x=>[.box [.val (.int .i64 d.id),.val (.int .i64 d.epoch),.val (.int .i64 d.next),.val (.slice a d.edits.length cap)],.box [.val (.int .i64 o.id),.val (.int .i64 o.epoch),.val (.int .i64 o.next),.val (.slice b o.edits.length bcap)],
   .box [.val (.int .i64 0),.val (.int .i64 0),.val (.int .i64 0),.val (.slice none 0 0)],.box [.val (.int .i64 d.id),.val (.int .i64 d.epoch),.val (.int .i64 x.2.1),ouSV x.2.2.1.length x.2.2.2.1],ouBlk x.2.2.2.2 x.2.2.2.1])
  (fun x R=>x.1≤o.edits.length∧x.2.2.1=(freshD d.edits (o.edits.take x.1)).foldl insR d.edits∧x.2.1=nextD d.next (freshD d.edits (o.edits.take x.1))∧(∀y∈o.edits.take x.1,∀z∈d.edits,keyEq z y=true→z=y) ∧
   match x.2.2.2.1 with
   |none=>x.2.2.2.2.map (·.1)=x.2.2.1∧∀p∈x.2.2.2.2,PlOK R p
   |some y=>EdsV R (.slice y.1 x.2.2.1.length y.2) x.2.2.1) (fun x=>o.edits.length-x.1) (0,d.next,d.edits,none,ps0) [0,1,2,3,5] ?_ ?_ ?_ ?_
 ·try simp only[go_sem,↓reduceIte,Qa,Qb]
  repeat' (first|rfl|trivial|constructor)
 ·try simp only[go_sem,Qb,Qe,Qf]
  exact⟨⟨rfl,rfl⟩,by decide⟩
 ·exact⟨Nat.zero_le _,rfl,rfl,by simp,hps0,hpo0⟩
 rintro⟨i,nx,ou,fl,ps⟩ env R3 hle3 hE ⟨hi,hou,hnx,hag,hfl⟩
 simp only[] at hi hou hnx hag hfl
 have hle03:=RO.le_trans hle02 hle3
 cases fl with
 |none =>
  simp only[ouSV,ouBlk] at hE hfl ⊢
  (simp only[go_sem] at hE;obtain⟨e7,e2,e3,e4,e6⟩:=hE;simp only[go_sem,↓reduceIte,Qa,Qb,e7,e3,e4,e6];dsimp only at *)
  refine⟨fun hlt=>?_,fun hge=>?_⟩
  ·have hlt':i<o.edits.length:=by omega
   obtain⟨ad,p,hadd,hp1,hR,hpok⟩:=hbf i hlt'
   have hcells:∀j u,(p.ed.cells)[j]?=some u→R3 ((ad.add (i*13)).add j) u:=fun j u hj=>hle03 _ _ (hR j u hj)
   have hfs:=zfz d.edits o.edits hlt'
   have htk:o.edits.take (i+1)=o.edits.take i++[p.1]:=by rw[List.take_succ_eq_append_getElem hlt',←hp1]
   rw[←hp1] at hfs
   have hpm:p.1∈o.edits:=by rw[hp1];exact List.getElem_mem hlt'
   have hag':(∀z∈d.edits,keyEq z p.1=true→z=p.1)→∀y∈o.edits.take (i+1),∀z∈d.edits,keyEq z y=true→z=y:=fun h y hy=>by
    rw[htk] at hy
    rcases List.mem_append.1 hy with hy|hy
    ·exact hag y hy
    ·simp only[List.mem_cons,List.not_mem_nil,or_false] at hy
     subst hy;exact h
   have hfl1:(freshD d.edits (o.edits.take i)).length≤4096:=by
    have h1:(freshD d.edits (o.edits.take i)).length≤(o.edits.take i).length:=List.length_filter_le _ _
    rw[List.length_take] at h1;omega
   have houl:ou.length≤8192:=by rw[hou,zer];omega
   have hpsq:=hao.1 p.1 hpm
   have hsq:=zb2 hpsq.1
   have htd:p.1.seq.tdiv 64=p.1.seq/64:=zaN (by omega) (by omega)
   refine⟨by omega,vat ad hadd ?_⟩
   try simp only[go_sem,↓reduceIte]
   refine zaf p.ed.cells rfl hcells ?_
   simp only[go_sem,↓reduceIte,Qa,Qb,Ed.cells,Pl.ed,De.ed,e2]
   have hF:=zpw d.edits _ p.1 p.2.1 p.2.2.1 p.2.2.2 R3 (h0.mono hle03)
   simp only[Ed.cells,De.ed] at hF
   refine vcall hF ?_
   rintro R4 v hle4 hfd
   rcases hfd with⟨rfl,hno⟩|⟨q,hq,rfl,hkq⟩
   ·have hany:d.edits.any (keyEq p.1)=false:=List.any_eq_false.2 fun x hx=>by rw[hno x hx];simp
    rw[hany,if_neg (by simp)] at hfs
    try simp only[go_sem,↓reduceIte,Qa,Qb,Ja,Jb,e6]
    refine zez ?_
    try simp only[go_sem,↓reduceIte,Qa]
    intro bb bc R4' hle4' hrow hcap hfr
    try simp only[go_sem,↓reduceIte,Qa,Qb,Qc,Qd,Qe,Qf,reduceCtorEq]
    have hEd:=EdsV.row hrow (by simpa using hcap) (fun q hq=>(hfl.2 q hq).mono (RO.le_trans hle4 hle4')) (by have:=congrArg List.length hfl.1;rw[List.length_map] at this;omega)
    have hpl:ps.length=ou.length:=by have:=congrArg List.length hfl.1;rw[List.length_map] at this;omega
    rw[hfl.1,hpl] at hEd
    have hIns:=zhL ou p _ R4' hEd (hpok.mono (RO.le_trans hle03 (RO.le_trans hle4 hle4'))) (by omega)
    simp only[Ed.val,Pl.ed,De.ed] at hIns
    refine vcall hIns ?_
    rintro R5 r hle5 hr
    obtain⟨ra5,rc5,rfl,_⟩:=hr.form
    try simp only[go_sem,↓reduceIte,Qa,Qb,Qd,Qe,Qf,Je,e7,e2,e3,e4,e6]
    refine⟨_,W.in64 (by rw[htd];omega),?_⟩
    rw[htd]
    refine⟨_,W.in64 (by omega),?_⟩
    try simp only[go_sem,↓reduceIte,Qa,Qb,Qc,Qd,Qe,Qf,reduceCtorEq,Ja,Jb,Jc,Jd,Je,Jf,e7,e2,e3,e4,e6]
    refine⟨_,W.in64 (by omega),(i+1,max nx (p.1.seq/64+1),insR ou p.1,some (ra5,rc5),[]),[],?_⟩
    simp only[ouSV]
    try simp only[go_sem,Qb]
    refine⟨by omega,(by repeat' (first|rfl|constructor)),by decide,by omega,?_,?_,hag' (fun z hz hk=>?_),hr⟩
    ·rw[hfs,List.foldl_append,←hou];rfl
    ·rw[hfs,zds,←hnx]
    ·exfalso
     have:=hno z hz
     rw[zay,hk] at this;cases this
   ·have hany:d.edits.any (keyEq p.1)=true:=List.any_eq_true.2 ⟨_,List.getElem_mem hq,hkq⟩
    rw[hany,if_pos rfl,List.append_nil] at hfs
    have hq0:(0:Int)≤(q:Int):=by omega
    have hq1:¬ (q:Int)<0:=by omega
    try simp only[go_sem,↓reduceIte,Qa,e2,hq0]
    obtain⟨ad2,pq,had2,hpq1,hR2,hpqok⟩:=hf q hq
    refine⟨by omega,vat ad2 had2 ?_⟩
    try simp only[go_sem,↓reduceIte,Qa]
    refine zaf pq.ed.cells rfl (fun j u hj=>hle4 _ _ (hle03 _ _ (hR2 j u hj))) ?_
    simp only[go_sem,↓reduceIte,Qa,Qb,Ed.cells,Pl.ed,De.ed]
    have hSm:=zpi pq.1 p.1 _ _ R4 (PlOK.edV (hpqok.mono (RO.le_trans hle03 hle4))) (PlOK.edV (hpok.mono (RO.le_trans hle03 hle4)))
    simp only[Ed.cells,Pl.ed,De.ed] at hSm
    refine vcall hSm ?_
    rintro R5 v hle5 rfl
    have hkq':keyEq pq.1 p.1=true:=by rw[hpq1,zay];exact hkq
    have hpqm:pq.1∈d.edits:=by rw[hpq1];exact List.getElem_mem hq
    by_cases hsame:pq.1=p.1
    ·rw[decide_eq_true hsame]
     try simp only[go_sem,↓reduceIte,Qa,Qb,Qe,Qf,e7,e2,e3,e4,e6,eq_false hq1]
     refine⟨_,W.in64 (by omega),(i+1,nx,ou,none,ps),[],?_⟩
     simp only[ouSV]
     try simp only[go_sem,Qb,Qe]
     refine⟨by omega,(by repeat' (first|rfl|constructor)),by decide,by omega,by rw[hfs];exact hou,by rw[hfs];exact hnx,hag' (fun z hz hk=>?_),⟨hfl.1,fun q hq=>(hfl.2 q hq).mono (RO.le_trans hle4 hle5)⟩⟩
     have hKD:KeysD d.edits:=had.2.imp fun h=>zaE h
     have:=hKD.eq hz hpqm (by rw[hsame];exact hk)
     rw[this,hsame]
    ·rw[decide_eq_false hsame]
     try simp only[go_sem,↓reduceIte,Qa,Qb,e4]
     have hagf:¬ zbG d.edits o.edits=true:=fun h=>by
      unfold zbG at h
      have h1:=List.all_eq_true.1 (List.all_eq_true.1 h pq.1 hpqm) p.1 hpm
      rw[hkq'] at h1
      simp at h1
      exact hsame h1
     try rw[if_neg hagf]
     try exact rfl
  ·obtain rfl:i=o.edits.length:=by omega
   rw[List.take_length] at hou hnx hag
   rw[zhM had.2 hao.2] at hou
   have hagt:zbG d.edits o.edits=true:=by
    unfold zbG
    rw[List.all_eq_true]
    intro x hx
    rw[List.all_eq_true]
    intro y hy
    cases hk:keyEq x y with
    |false=>rfl
    |true=>simp[hag y hy x hx hk]
   try rw[if_pos hagt]
   rw[←hou,←hnx]
   refine⟨fun h1=>?_,fun h1=>?_⟩
   ·rw[if_pos (by omega)];exact rfl
   ·rw[if_neg (by omega)]
    try simp only[go_sem,↓reduceIte,Qa,Qb,Qc,Qd,Qe,Qf,reduceCtorEq]
    intro bb bc R4 hle4 hrow hcap hfr
    try simp only[go_sem,↓reduceIte,Qa,Qb,Qc,Qd,Qe,Qf,reduceCtorEq]
    have hpl:ps.length=ou.length:=by have:=congrArg List.length hfl.1;rw[List.length_map] at this;omega
    have hEd:=EdsV.row hrow (by simpa using hcap) (fun q hq=>(hfl.2 q hq).mono hle4) (by omega)
    rw[hfl.1,hpl] at hEd
    exact⟨_,rfl,hEd⟩
 |some fv =>
  simp only[ouSV,ouBlk] at hE hfl ⊢
  (simp only[go_sem] at hE;obtain⟨e7,e2,e3,e4,e6⟩:=hE;simp only[go_sem,↓reduceIte,Qa,Qb,e7,e3,e4,e6];dsimp only at *)
  refine⟨fun hlt=>?_,fun hge=>?_⟩
  ·have hlt':i<o.edits.length:=by omega
   obtain⟨ad,p,hadd,hp1,hR,hpok⟩:=hbf i hlt'
   have hcells:∀j u,(p.ed.cells)[j]?=some u→R3 ((ad.add (i*13)).add j) u:=fun j u hj=>hle03 _ _ (hR j u hj)
   have hfs:=zfz d.edits o.edits hlt'
   have htk:o.edits.take (i+1)=o.edits.take i++[p.1]:=by rw[List.take_succ_eq_append_getElem hlt',←hp1]
   rw[←hp1] at hfs
   have hpm:p.1∈o.edits:=by rw[hp1];exact List.getElem_mem hlt'
   have hag':(∀z∈d.edits,keyEq z p.1=true→z=p.1)→∀y∈o.edits.take (i+1),∀z∈d.edits,keyEq z y=true→z=y:=fun h y hy=>by
    rw[htk] at hy
    rcases List.mem_append.1 hy with hy|hy
    ·exact hag y hy
    ·simp only[List.mem_cons,List.not_mem_nil,or_false] at hy
     subst hy;exact h
   have hfl1:(freshD d.edits (o.edits.take i)).length≤4096:=by
    have h1:(freshD d.edits (o.edits.take i)).length≤(o.edits.take i).length:=List.length_filter_le _ _
    rw[List.length_take] at h1;omega
   have houl:ou.length≤8192:=by rw[hou,zer];omega
   have hpsq:=hao.1 p.1 hpm
   have hsq:=zb2 hpsq.1
   have htd:p.1.seq.tdiv 64=p.1.seq/64:=zaN (by omega) (by omega)
   refine⟨by omega,vat ad hadd ?_⟩
   try simp only[go_sem,↓reduceIte]
   refine zaf p.ed.cells rfl hcells ?_
   simp only[go_sem,↓reduceIte,Qa,Qb,Ed.cells,Pl.ed,De.ed,e2]
   have hF:=zpw d.edits _ p.1 p.2.1 p.2.2.1 p.2.2.2 R3 (h0.mono hle03)
   simp only[Ed.cells,De.ed] at hF
   refine vcall hF ?_
   rintro R4 v hle4 hfd
   rcases hfd with⟨rfl,hno⟩|⟨q,hq,rfl,hkq⟩
   ·have hany:d.edits.any (keyEq p.1)=false:=List.any_eq_false.2 fun x hx=>by rw[hno x hx];simp
    rw[hany,if_neg (by simp)] at hfs
    try simp only[go_sem,↓reduceIte,Qa,Qb,Ja,Jb,e6]
    have hIns:=zhL ou p _ R4 (hfl.mono hle4) (hpok.mono (RO.le_trans hle03 hle4)) (by omega)
    simp only[Ed.val,Pl.ed,De.ed] at hIns
    refine vcall hIns ?_
    rintro R5 r hle5 hr
    obtain⟨ra5,rc5,rfl,_⟩:=hr.form
    try simp only[go_sem,↓reduceIte,Qa,Qb,Qd,Qe,Qf,Je,e7,e2,e3,e4,e6]
    refine⟨_,W.in64 (by rw[htd];omega),?_⟩
    rw[htd]
    refine⟨_,W.in64 (by omega),?_⟩
    try simp only[go_sem,↓reduceIte,Qa,Qb,Qc,Qd,Qe,Qf,reduceCtorEq,Ja,Jb,Jc,Jd,Je,Jf,e7,e2,e3,e4,e6]
    refine⟨_,W.in64 (by omega),(i+1,max nx (p.1.seq/64+1),insR ou p.1,some (ra5,rc5),[]),[],?_⟩
    simp only[ouSV]
    try simp only[go_sem,Qb]
    refine⟨by omega,(by repeat' (first|rfl|constructor)),by decide,by omega,?_,?_,hag' (fun z hz hk=>?_),hr⟩
    ·rw[hfs,List.foldl_append,←hou];rfl
    ·rw[hfs,zds,←hnx]
    ·exfalso
     have:=hno z hz
     rw[zay,hk] at this;cases this
   ·have hany:d.edits.any (keyEq p.1)=true:=List.any_eq_true.2 ⟨_,List.getElem_mem hq,hkq⟩
    rw[hany,if_pos rfl,List.append_nil] at hfs
    have hq0:(0:Int)≤(q:Int):=by omega
    have hq1:¬ (q:Int)<0:=by omega
    try simp only[go_sem,↓reduceIte,Qa,e2,hq0]
    obtain⟨ad2,pq,had2,hpq1,hR2,hpqok⟩:=hf q hq
    refine⟨by omega,vat ad2 had2 ?_⟩
    try simp only[go_sem,↓reduceIte,Qa]
    refine zaf pq.ed.cells rfl (fun j u hj=>hle4 _ _ (hle03 _ _ (hR2 j u hj))) ?_
    simp only[go_sem,↓reduceIte,Qa,Qb,Ed.cells,Pl.ed,De.ed]
    have hSm:=zpi pq.1 p.1 _ _ R4 (PlOK.edV (hpqok.mono (RO.le_trans hle03 hle4))) (PlOK.edV (hpok.mono (RO.le_trans hle03 hle4)))
    simp only[Ed.cells,Pl.ed,De.ed] at hSm
    refine vcall hSm ?_
    rintro R5 v hle5 rfl
    have hkq':keyEq pq.1 p.1=true:=by rw[hpq1,zay];exact hkq
    have hpqm:pq.1∈d.edits:=by rw[hpq1];exact List.getElem_mem hq
    by_cases hsame:pq.1=p.1
    ·rw[decide_eq_true hsame]
     try simp only[go_sem,↓reduceIte,Qa,Qb,Qe,Qf,e7,e2,e3,e4,e6,eq_false hq1]
     refine⟨_,W.in64 (by omega),(i+1,nx,ou,some fv,ps),[],?_⟩
     simp only[ouSV]
     try simp only[go_sem,Qb]
     refine⟨by omega,(by repeat' (first|rfl|constructor)),by decide,by omega,by rw[hfs];exact hou,by rw[hfs];exact hnx,hag' (fun z hz hk=>?_),hfl.mono (RO.le_trans hle4 hle5)⟩
     have hKD:KeysD d.edits:=had.2.imp fun h=>zaE h
     have:=hKD.eq hz hpqm (by rw[hsame];exact hk)
     rw[this,hsame]
    ·rw[decide_eq_false hsame]
     try simp only[go_sem,↓reduceIte,Qa,Qb,e4]
     have hagf:¬ zbG d.edits o.edits=true:=fun h=>by
      unfold zbG at h
      have h1:=List.all_eq_true.1 (List.all_eq_true.1 h pq.1 hpqm) p.1 hpm
      rw[hkq'] at h1
      simp at h1
      exact hsame h1
     try rw[if_neg hagf]
     try exact rfl
  ·obtain rfl:i=o.edits.length:=by omega
   rw[List.take_length] at hou hnx hag
   rw[zhM had.2 hao.2] at hou
   have hagt:zbG d.edits o.edits=true:=by
    unfold zbG
    rw[List.all_eq_true]
    intro x hx
    rw[List.all_eq_true]
    intro y hy
    cases hk:keyEq x y with
    |false=>rfl
    |true=>simp[hag y hy x hx hk]
   try rw[if_pos hagt]
   rw[←hou,←hnx]
   refine⟨fun h1=>?_,fun h1=>?_⟩
   ·rw[if_pos (by omega)];exact rfl
   ·rw[if_neg (by omega)]
    try simp only[go_sem,↓reduceIte,Qa,Qb,Qc,Qd,Qe,Qf,reduceCtorEq]
    exact⟨_,rfl,hfl⟩
/-! ### The reference's Run, Made -/
set_option maxHeartbeats 8000000 in
theorem rRun(w:Wd)(o:Opn)(wv:Value)(R:RO)(h:WdV R wv w)(ho:o.ok)(hep:∀i,0≤w.ep i∧w.ep i≤1000000):zaa Tryz.prog 43 [wv,.agg o.cells.toArray] R fun R' r=>WdV R' r (runW w o):=by
 obtain⟨x0,x1,x2,y0,y1,y2,rfl,h0,h1,h2,h3,h4,h5⟩:=h
 have hE:=fun R'=>eEdit o R'
 obtain⟨xa0,xc0,rfl,_⟩:=h0.form
 obtain⟨xa1,xc1,rfl,_⟩:=h1.form
 obtain⟨xa2,xc2,rfl,_⟩:=h2.form
 obtain⟨ya0,yc0,rfl,_⟩:=h3.form
 obtain⟨ya1,yc1,rfl,_⟩:=h4.form
 obtain⟨ya2,yc2,rfl,_⟩:=h5.form
 obtain⟨hok1,hok2,hok3⟩:=ho
 simp only[za2,Opn.cells,Ed.cells,List.cons_append,List.nil_append] at hE ⊢
 refine zac mix Tryz.func43 comp43 (by simp[Tryz.ntmps43]) ?_;simp only[vc43,rs43]
 (refine cutR ?_ ?_ ?_;rotate_left;(try simp only[go_sem,↓reduceIte,Qa,Qb];rfl))
 have hkm:o.kind.tmod 6=o.kind%6:=zbw hok1.1
 have hbm:0≤o.b.tmod 3∧o.b.tmod 3<3:=by have:=zbw (b:=3) hok3.1;omega
 rcases rem3 hok2.1 with⟨hi,hin⟩|⟨hi,hin⟩|⟨hi,hin⟩
 ·rw[zbU]
  try simp only[go_sem,↓reduceIte,Qa,Jd,Je,hi]
  refine⟨0,W.in64 (by decide),_,W.in64 (by omega),?_⟩
  try simp only[go_sem,↓reduceIte,Qa,Qb,Qc,Qd,Ja,Jb,Jc,Jd,Je]
  rw[hkm]
  refine⟨fun k3=>?_,fun k3=>⟨fun k4=>?_,fun k4=>⟨fun k5=>?_,fun k5=>?_⟩⟩⟩
  ·rcases rem3 hok3.1 with⟨hk,hkn⟩|⟨hk,hkn⟩|⟨hk,hkn⟩
   ·rw[hk]
    try simp only[go_sem,↓reduceIte,Qa,Qb,Qc,Ja,Jb,Jc]
    refine vcall (zd6 w.n0 w.n0 _ _ R h0 h0) ?_
    intro R1 r hle1 hr
    have hrun:runW w o=stepW w 0 (zaC w.n0 w.n0):=by
     unfold runW Opn.i Opn.k
     rw[if_pos (by omega),hin,hkn]
     rfl
    rw[hrun]
    rcases hr.shape with⟨e,hx,rfl⟩|⟨d,da,dc,hx,rfl,hd⟩
    ·have hne:=zbb hx
     rw[hx]
     try simp only[go_sem,↓reduceIte,Qa,Qb,eq_false hne]
     exact⟨_,_,_,_,_,_,rfl,(h0.mono hle1),(h1.mono hle1),(h2.mono hle1),(h3.mono hle1),(h4.mono hle1),(h5.mono hle1)⟩
    ·rw[hx]
     try simp only[go_sem,↓reduceIte,Qa,Qb,Qd,Ja,Jb,Jc,Jd]
     exact⟨_,_,_,_,_,_,rfl,hd,(h1.mono hle1),(h2.mono hle1),(h3.mono hle1),(h4.mono hle1),(h5.mono hle1)⟩
   ·rw[hk]
    try simp only[go_sem,↓reduceIte,Qa,Qb,Qc,Ja,Jb,Jc]
    refine vcall (zd6 w.n0 w.n1 _ _ R h0 h1) ?_
    intro R1 r hle1 hr
    have hrun:runW w o=stepW w 0 (zaC w.n0 w.n1):=by
     unfold runW Opn.i Opn.k
     rw[if_pos (by omega),hin,hkn]
     rfl
    rw[hrun]
    rcases hr.shape with⟨e,hx,rfl⟩|⟨d,da,dc,hx,rfl,hd⟩
    ·have hne:=zbb hx
     rw[hx]
     try simp only[go_sem,↓reduceIte,Qa,Qb,eq_false hne]
     exact⟨_,_,_,_,_,_,rfl,(h0.mono hle1),(h1.mono hle1),(h2.mono hle1),(h3.mono hle1),(h4.mono hle1),(h5.mono hle1)⟩
    ·rw[hx]
     try simp only[go_sem,↓reduceIte,Qa,Qb,Qd,Ja,Jb,Jc,Jd]
     exact⟨_,_,_,_,_,_,rfl,hd,(h1.mono hle1),(h2.mono hle1),(h3.mono hle1),(h4.mono hle1),(h5.mono hle1)⟩
   ·rw[hk]
    try simp only[go_sem,↓reduceIte,Qa,Qb,Qc,Ja,Jb,Jc]
    refine vcall (zd6 w.n0 w.n2 _ _ R h0 h2) ?_
    intro R1 r hle1 hr
    have hrun:runW w o=stepW w 0 (zaC w.n0 w.n2):=by
     unfold runW Opn.i Opn.k
     rw[if_pos (by omega),hin,hkn]
     rfl
    rw[hrun]
    rcases hr.shape with⟨e,hx,rfl⟩|⟨d,da,dc,hx,rfl,hd⟩
    ·have hne:=zbb hx
     rw[hx]
     try simp only[go_sem,↓reduceIte,Qa,Qb,eq_false hne]
     exact⟨_,_,_,_,_,_,rfl,(h0.mono hle1),(h1.mono hle1),(h2.mono hle1),(h3.mono hle1),(h4.mono hle1),(h5.mono hle1)⟩
    ·rw[hx]
     try simp only[go_sem,↓reduceIte,Qa,Qb,Qd,Ja,Jb,Jc,Jd]
     exact⟨_,_,_,_,_,_,rfl,hd,(h1.mono hle1),(h2.mono hle1),(h3.mono hle1),(h4.mono hle1),(h5.mono hle1)⟩
  ·have hrun:runW w o=w.setCopy w.n0 0:=by
    unfold runW Opn.i
    rw[if_neg (by omega),if_pos (by omega),hin]
    rfl
   rw[hrun]
   exact⟨_,_,_,_,_,_,rfl,(h0),(h1),(h2),h0,(h4),(h5)⟩
  ·have hrun : runW w o = match za1 w.c0 (w.e0 + 1) with
     |.error _=>w
     |.ok d=>(w.setEp (w.e0+1) 0).setNow d 0:=by
    unfold runW Opn.i
    rw[if_neg (by omega),if_neg (by omega),if_pos (by omega),hin]
    rfl
   rw[hrun]
   have hepi:0≤w.e0∧w.e0≤1000000:=hep 0
   refine⟨_,W.in64 (by omega),?_⟩
   try simp only[go_sem,↓reduceIte,Qa,Qb,Qc,Qd,Qe,Qf,reduceCtorEq,Ja,Jb,Jc,Jd,Je,Jf]
   refine vcall (zfx w.c0 _ (w.e0+1) R h3) ?_
   intro R1 r hle1 hr
   rcases hr.shape with⟨e,hx,rfl⟩|⟨d,da,dc,hx,rfl,hd⟩
   ·have hne:=zcS hx
    rw[hx]
    try simp only[go_sem,↓reduceIte,Qa,Qb,eq_false hne]
    exact⟨_,_,_,_,_,_,rfl,(h0.mono hle1),(h1.mono hle1),(h2.mono hle1),(h3.mono hle1),(h4.mono hle1),(h5.mono hle1)⟩
   ·rw[hx]
    try simp only[go_sem,↓reduceIte,Qa,Qb,Qd,Ja,Jb,Jc,Jd]
    refine⟨_,W.in64 (by omega),?_⟩
    try simp only[go_sem,↓reduceIte,Qa,Qb,Qc,Qd,Qe,Qf,reduceCtorEq,Ja,Jb,Jc,Jd,Je,Jf]
    exact⟨_,_,_,_,_,_,rfl,hd,(h1.mono hle1),(h2.mono hle1),(h3.mono hle1),(h4.mono hle1),(h5.mono hle1)⟩
  ·have hrun:runW w o=stepW w 0 (dvAdd w.n0 (madeE o.ed)):=by
    unfold runW Opn.i
    rw[if_neg (by omega),if_neg (by omega),if_neg (by omega),hin]
    rfl
   rw[hrun]
   refine vcall (hE R) ?_
   rintro R1 v hle1 ⟨ea,en,ec,rfl,her⟩
   try simp only[go_sem,↓reduceIte,Qa]
   refine vcall (rAddD w.n0 _ (madeE o.ed) ea en ec R1 (h0.mono hle1) her) ?_
   intro R2 r hle2 hr
   have hle12:=RO.le_trans hle1 hle2
   rcases hr.shape with⟨e,hx,rfl⟩|⟨d,da,dc,hx,rfl,hd⟩
   ·have hne:=zfv hx
    rw[hx]
    try simp only[go_sem,↓reduceIte,Qa,Qb,eq_false hne]
    exact⟨_,_,_,_,_,_,rfl,(h0.mono hle12),(h1.mono hle12),(h2.mono hle12),(h3.mono hle12),(h4.mono hle12),(h5.mono hle12)⟩
   ·rw[hx]
    try simp only[go_sem,↓reduceIte,Qa,Qb,Qd,Ja,Jb,Jc,Jd]
    exact⟨_,_,_,_,_,_,rfl,hd,(h1.mono hle12),(h2.mono hle12),(h3.mono hle12),(h4.mono hle12),(h5.mono hle12)⟩
 ·rw[zbU]
  try simp only[go_sem,↓reduceIte,Qa,Jd,Je,hi]
  refine⟨1,W.in64 (by decide),_,W.in64 (by omega),?_⟩
  try simp only[go_sem,↓reduceIte,Qa,Qb,Qc,Qd,Ja,Jb,Jc,Jd,Je]
  rw[hkm]
  refine⟨fun k3=>?_,fun k3=>⟨fun k4=>?_,fun k4=>⟨fun k5=>?_,fun k5=>?_⟩⟩⟩
  ·rcases rem3 hok3.1 with⟨hk,hkn⟩|⟨hk,hkn⟩|⟨hk,hkn⟩
   ·rw[hk]
    try simp only[go_sem,↓reduceIte,Qa,Qb,Qc,Ja,Jb,Jc]
    refine vcall (zd6 w.n1 w.n0 _ _ R h1 h0) ?_
    intro R1 r hle1 hr
    have hrun:runW w o=stepW w 1 (zaC w.n1 w.n0):=by
     unfold runW Opn.i Opn.k
     rw[if_pos (by omega),hin,hkn]
     rfl
    rw[hrun]
    rcases hr.shape with⟨e,hx,rfl⟩|⟨d,da,dc,hx,rfl,hd⟩
    ·have hne:=zbb hx
     rw[hx]
     try simp only[go_sem,↓reduceIte,Qa,Qb,eq_false hne]
     exact⟨_,_,_,_,_,_,rfl,(h0.mono hle1),(h1.mono hle1),(h2.mono hle1),(h3.mono hle1),(h4.mono hle1),(h5.mono hle1)⟩
    ·rw[hx]
     try simp only[go_sem,↓reduceIte,Qa,Qb,Qc,Qd,Ja,Jb,Jc,Jd]
     exact⟨_,_,_,_,_,_,rfl,(h0.mono hle1),hd,(h2.mono hle1),(h3.mono hle1),(h4.mono hle1),(h5.mono hle1)⟩
   ·rw[hk]
    try simp only[go_sem,↓reduceIte,Qa,Qb,Qc,Ja,Jb,Jc]
    refine vcall (zd6 w.n1 w.n1 _ _ R h1 h1) ?_
    intro R1 r hle1 hr
    have hrun:runW w o=stepW w 1 (zaC w.n1 w.n1):=by
     unfold runW Opn.i Opn.k
     rw[if_pos (by omega),hin,hkn]
     rfl
    rw[hrun]
    rcases hr.shape with⟨e,hx,rfl⟩|⟨d,da,dc,hx,rfl,hd⟩
    ·have hne:=zbb hx
     rw[hx]
     try simp only[go_sem,↓reduceIte,Qa,Qb,eq_false hne]
     exact⟨_,_,_,_,_,_,rfl,(h0.mono hle1),(h1.mono hle1),(h2.mono hle1),(h3.mono hle1),(h4.mono hle1),(h5.mono hle1)⟩
    ·rw[hx]
     try simp only[go_sem,↓reduceIte,Qa,Qb,Qc,Qd,Ja,Jb,Jc,Jd]
     exact⟨_,_,_,_,_,_,rfl,(h0.mono hle1),hd,(h2.mono hle1),(h3.mono hle1),(h4.mono hle1),(h5.mono hle1)⟩
   ·rw[hk]
    try simp only[go_sem,↓reduceIte,Qa,Qb,Qc,Ja,Jb,Jc]
    refine vcall (zd6 w.n1 w.n2 _ _ R h1 h2) ?_
    intro R1 r hle1 hr
    have hrun:runW w o=stepW w 1 (zaC w.n1 w.n2):=by
     unfold runW Opn.i Opn.k
     rw[if_pos (by omega),hin,hkn]
     rfl
    rw[hrun]
    rcases hr.shape with⟨e,hx,rfl⟩|⟨d,da,dc,hx,rfl,hd⟩
    ·have hne:=zbb hx
     rw[hx]
     try simp only[go_sem,↓reduceIte,Qa,Qb,eq_false hne]
     exact⟨_,_,_,_,_,_,rfl,(h0.mono hle1),(h1.mono hle1),(h2.mono hle1),(h3.mono hle1),(h4.mono hle1),(h5.mono hle1)⟩
    ·rw[hx]
     try simp only[go_sem,↓reduceIte,Qa,Qb,Qc,Qd,Ja,Jb,Jc,Jd]
     exact⟨_,_,_,_,_,_,rfl,(h0.mono hle1),hd,(h2.mono hle1),(h3.mono hle1),(h4.mono hle1),(h5.mono hle1)⟩
  ·have hrun:runW w o=w.setCopy w.n1 1:=by
    unfold runW Opn.i
    rw[if_neg (by omega),if_pos (by omega),hin]
    rfl
   rw[hrun]
   exact⟨_,_,_,_,_,_,rfl,(h0),(h1),(h2),(h3),h1,(h5)⟩
  ·have hrun : runW w o = match za1 w.c1 (w.e1 + 1) with
     |.error _=>w
     |.ok d=>(w.setEp (w.e1+1) 1).setNow d 1:=by
    unfold runW Opn.i
    rw[if_neg (by omega),if_neg (by omega),if_pos (by omega),hin]
    rfl
   rw[hrun]
   have hepi:0≤w.e1∧w.e1≤1000000:=hep 1
   refine⟨_,W.in64 (by omega),?_⟩
   try simp only[go_sem,↓reduceIte,Qa,Qb,Qc,Qd,Qe,Qf,reduceCtorEq,Ja,Jb,Jc,Jd,Je,Jf]
   refine vcall (zfx w.c1 _ (w.e1+1) R h4) ?_
   intro R1 r hle1 hr
   rcases hr.shape with⟨e,hx,rfl⟩|⟨d,da,dc,hx,rfl,hd⟩
   ·have hne:=zcS hx
    rw[hx]
    try simp only[go_sem,↓reduceIte,Qa,Qb,eq_false hne]
    exact⟨_,_,_,_,_,_,rfl,(h0.mono hle1),(h1.mono hle1),(h2.mono hle1),(h3.mono hle1),(h4.mono hle1),(h5.mono hle1)⟩
   ·rw[hx]
    try simp only[go_sem,↓reduceIte,Qa,Qb,Qc,Qd,Ja,Jb,Jc,Jd]
    refine⟨_,W.in64 (by omega),?_⟩
    try simp only[go_sem,↓reduceIte,Qa,Qb,Qc,Qd,Qe,Qf,reduceCtorEq,Ja,Jb,Jc,Jd,Je,Jf]
    exact⟨_,_,_,_,_,_,rfl,(h0.mono hle1),hd,(h2.mono hle1),(h3.mono hle1),(h4.mono hle1),(h5.mono hle1)⟩
  ·have hrun:runW w o=stepW w 1 (dvAdd w.n1 (madeE o.ed)):=by
    unfold runW Opn.i
    rw[if_neg (by omega),if_neg (by omega),if_neg (by omega),hin]
    rfl
   rw[hrun]
   refine vcall (hE R) ?_
   rintro R1 v hle1 ⟨ea,en,ec,rfl,her⟩
   try simp only[go_sem,↓reduceIte,Qa]
   refine vcall (rAddD w.n1 _ (madeE o.ed) ea en ec R1 (h1.mono hle1) her) ?_
   intro R2 r hle2 hr
   have hle12:=RO.le_trans hle1 hle2
   rcases hr.shape with⟨e,hx,rfl⟩|⟨d,da,dc,hx,rfl,hd⟩
   ·have hne:=zfv hx
    rw[hx]
    try simp only[go_sem,↓reduceIte,Qa,Qb,eq_false hne]
    exact⟨_,_,_,_,_,_,rfl,(h0.mono hle12),(h1.mono hle12),(h2.mono hle12),(h3.mono hle12),(h4.mono hle12),(h5.mono hle12)⟩
   ·rw[hx]
    try simp only[go_sem,↓reduceIte,Qa,Qb,Qc,Qd,Ja,Jb,Jc,Jd]
    exact⟨_,_,_,_,_,_,rfl,(h0.mono hle12),hd,(h2.mono hle12),(h3.mono hle12),(h4.mono hle12),(h5.mono hle12)⟩
 ·rw[zbU]
  try simp only[go_sem,↓reduceIte,Qa,Jd,Je,hi]
  refine⟨2,W.in64 (by decide),_,W.in64 (by omega),?_⟩
  try simp only[go_sem,↓reduceIte,Qa,Qb,Qc,Qd,Ja,Jb,Jc,Jd,Je]
  rw[hkm]
  refine⟨fun k3=>?_,fun k3=>⟨fun k4=>?_,fun k4=>⟨fun k5=>?_,fun k5=>?_⟩⟩⟩
  ·rcases rem3 hok3.1 with⟨hk,hkn⟩|⟨hk,hkn⟩|⟨hk,hkn⟩
   ·rw[hk]
    try simp only[go_sem,↓reduceIte,Qa,Qb,Qc,Ja,Jb,Jc]
    refine vcall (zd6 w.n2 w.n0 _ _ R h2 h0) ?_
    intro R1 r hle1 hr
    have hrun:runW w o=stepW w 2 (zaC w.n2 w.n0):=by
     unfold runW Opn.i Opn.k
     rw[if_pos (by omega),hin,hkn]
     rfl
    rw[hrun]
    rcases hr.shape with⟨e,hx,rfl⟩|⟨d,da,dc,hx,rfl,hd⟩
    ·have hne:=zbb hx
     rw[hx]
     try simp only[go_sem,↓reduceIte,Qa,Qb,eq_false hne]
     exact⟨_,_,_,_,_,_,rfl,(h0.mono hle1),(h1.mono hle1),(h2.mono hle1),(h3.mono hle1),(h4.mono hle1),(h5.mono hle1)⟩
    ·rw[hx]
     try simp only[go_sem,↓reduceIte,Qa,Qb,Qc,Qd,Ja,Jb,Jc,Jd]
     exact⟨_,_,_,_,_,_,rfl,(h0.mono hle1),(h1.mono hle1),hd,(h3.mono hle1),(h4.mono hle1),(h5.mono hle1)⟩
   ·rw[hk]
    try simp only[go_sem,↓reduceIte,Qa,Qb,Qc,Ja,Jb,Jc]
    refine vcall (zd6 w.n2 w.n1 _ _ R h2 h1) ?_
    intro R1 r hle1 hr
    have hrun:runW w o=stepW w 2 (zaC w.n2 w.n1):=by
     unfold runW Opn.i Opn.k
     rw[if_pos (by omega),hin,hkn]
     rfl
    rw[hrun]
    rcases hr.shape with⟨e,hx,rfl⟩|⟨d,da,dc,hx,rfl,hd⟩
    ·have hne:=zbb hx
     rw[hx]
     try simp only[go_sem,↓reduceIte,Qa,Qb,eq_false hne]
     exact⟨_,_,_,_,_,_,rfl,(h0.mono hle1),(h1.mono hle1),(h2.mono hle1),(h3.mono hle1),(h4.mono hle1),(h5.mono hle1)⟩
    ·rw[hx]
     try simp only[go_sem,↓reduceIte,Qa,Qb,Qc,Qd,Ja,Jb,Jc,Jd]
     exact⟨_,_,_,_,_,_,rfl,(h0.mono hle1),(h1.mono hle1),hd,(h3.mono hle1),(h4.mono hle1),(h5.mono hle1)⟩
   ·rw[hk]
    try simp only[go_sem,↓reduceIte,Qa,Qb,Qc,Ja,Jb,Jc]
    refine vcall (zd6 w.n2 w.n2 _ _ R h2 h2) ?_
    intro R1 r hle1 hr
    have hrun:runW w o=stepW w 2 (zaC w.n2 w.n2):=by
     unfold runW Opn.i Opn.k
     rw[if_pos (by omega),hin,hkn]
     rfl
    rw[hrun]
    rcases hr.shape with⟨e,hx,rfl⟩|⟨d,da,dc,hx,rfl,hd⟩
    ·have hne:=zbb hx
     rw[hx]
     try simp only[go_sem,↓reduceIte,Qa,Qb,eq_false hne]
     exact⟨_,_,_,_,_,_,rfl,(h0.mono hle1),(h1.mono hle1),(h2.mono hle1),(h3.mono hle1),(h4.mono hle1),(h5.mono hle1)⟩
    ·rw[hx]
     try simp only[go_sem,↓reduceIte,Qa,Qb,Qc,Qd,Ja,Jb,Jc,Jd]
     exact⟨_,_,_,_,_,_,rfl,(h0.mono hle1),(h1.mono hle1),hd,(h3.mono hle1),(h4.mono hle1),(h5.mono hle1)⟩
  ·have hrun:runW w o=w.setCopy w.n2 2:=by
    unfold runW Opn.i
    rw[if_neg (by omega),if_pos (by omega),hin]
    rfl
   rw[hrun]
   exact⟨_,_,_,_,_,_,rfl,(h0),(h1),(h2),(h3),(h4),h2⟩
  ·have hrun : runW w o = match za1 w.c2 (w.e2 + 1) with
     |.error _=>w
     |.ok d=>(w.setEp (w.e2+1) 2).setNow d 2:=by
    unfold runW Opn.i
    rw[if_neg (by omega),if_neg (by omega),if_pos (by omega),hin]
    rfl
   rw[hrun]
   have hepi:0≤w.e2∧w.e2≤1000000:=hep 2
   refine⟨_,W.in64 (by omega),?_⟩
   try simp only[go_sem,↓reduceIte,Qa,Qb,Qc,Qd,Qe,Qf,reduceCtorEq,Ja,Jb,Jc,Jd,Je,Jf]
   refine vcall (zfx w.c2 _ (w.e2+1) R h5) ?_
   intro R1 r hle1 hr
   rcases hr.shape with⟨e,hx,rfl⟩|⟨d,da,dc,hx,rfl,hd⟩
   ·have hne:=zcS hx
    rw[hx]
    try simp only[go_sem,↓reduceIte,Qa,Qb,eq_false hne]
    exact⟨_,_,_,_,_,_,rfl,(h0.mono hle1),(h1.mono hle1),(h2.mono hle1),(h3.mono hle1),(h4.mono hle1),(h5.mono hle1)⟩
   ·rw[hx]
    try simp only[go_sem,↓reduceIte,Qa,Qb,Qc,Qd,Ja,Jb,Jc,Jd]
    refine⟨_,W.in64 (by omega),?_⟩
    try simp only[go_sem,↓reduceIte,Qa,Qb,Qc,Qd,Qe,Qf,reduceCtorEq,Ja,Jb,Jc,Jd,Je,Jf]
    exact⟨_,_,_,_,_,_,rfl,(h0.mono hle1),(h1.mono hle1),hd,(h3.mono hle1),(h4.mono hle1),(h5.mono hle1)⟩
  ·have hrun:runW w o=stepW w 2 (dvAdd w.n2 (madeE o.ed)):=by
    unfold runW Opn.i
    rw[if_neg (by omega),if_neg (by omega),if_neg (by omega),hin]
    rfl
   rw[hrun]
   refine vcall (hE R) ?_
   rintro R1 v hle1 ⟨ea,en,ec,rfl,her⟩
   try simp only[go_sem,↓reduceIte,Qa]
   refine vcall (rAddD w.n2 _ (madeE o.ed) ea en ec R1 (h2.mono hle1) her) ?_
   intro R2 r hle2 hr
   have hle12:=RO.le_trans hle1 hle2
   rcases hr.shape with⟨e,hx,rfl⟩|⟨d,da,dc,hx,rfl,hd⟩
   ·have hne:=zfv hx
    rw[hx]
    try simp only[go_sem,↓reduceIte,Qa,Qb,eq_false hne]
    exact⟨_,_,_,_,_,_,rfl,(h0.mono hle12),(h1.mono hle12),(h2.mono hle12),(h3.mono hle12),(h4.mono hle12),(h5.mono hle12)⟩
   ·rw[hx]
    try simp only[go_sem,↓reduceIte,Qa,Qb,Qc,Qd,Ja,Jb,Jc,Jd]
    exact⟨_,_,_,_,_,_,rfl,(h0.mono hle12),(h1.mono hle12),hd,(h3.mono hle12),(h4.mono hle12),(h5.mono hle12)⟩
set_option maxHeartbeats 1000000 in
theorem rMade(os:List Opn)(v:Value)(R:RO)(h:OpC R v os):zaa Tryz.prog 16 [v] R fun R' u=>WdV R' u (playW os):=by
 obtain⟨a,cap,rfl,hc,hf⟩:=h.form
 obtain⟨_,hok,hl⟩:=h
 refine zac mix Tryz.func16 comp16 (by simp[Tryz.ntmps16]) ?_;simp only[go_sem,vc16,rs16]
 refine vcall (zrw R) ?_
 rintro R1 u hle1 ⟨x0,x1,x2,y0,y1,y2,rfl,h0,h1,h2,h3,h4,h5⟩
 obtain⟨a0,c0,rfl,_⟩:=h0.form
 obtain⟨a1,c1,rfl,_⟩:=h1.form
 obtain⟨a2,c2,rfl,_⟩:=h2.form
 obtain⟨a3,c3,rfl,_⟩:=h3.form
 obtain⟨a4,c4,rfl,_⟩:=h4.form
 obtain⟨a5,c5,rfl,_⟩:=h5.form
 simp only[za2]
 try simp only[go_sem,↓reduceIte,Qa,Qb]
 refine zal (Nat×(List Value)) (fun x=>[(4,.val (.int .i64 x.1)),(0,.val (.slice a os.length cap)),(2,.loc 0 0),(3,.loc 1 0)])
  (fun x=>[.box (boxc zpu),.box (boxc x.2)])
  (fun x R=>x.1≤os.length∧x.1≤12∧WdV R (.agg x.2.toArray) ((os.take x.1).foldl runW zbY)) (fun x=>os.length-x.1) (0,za2 zbY (.slice a0 0 c0) (.slice a1 0 c1) (.slice a2 0 c2) (.slice a3 0 c3) (.slice a4 0 c4) (.slice a5 0 c5)) [] ?_ ?_ ?_ ?_
 ·(try simp only[go_sem,↓reduceIte,Qa,Qb,reduceCtorEq])<;>(repeat' (first|rfl|trivial|constructor|(intro h;exact absurd rfl h)))
 ·try simp only[go_sem,Qb,Qe,Qf]
  exact⟨zcd _ _,zcd _ _⟩
 ·exact⟨Nat.zero_le _,Nat.zero_le _,_,_,_,_,_,_,rfl,h0,h1,h2,h3,h4,h5⟩
 rintro⟨i,xs⟩ env R2 hle2 hE ⟨hi,hi12,hW⟩
 simp only[] at hW
 obtain⟨n,M,hn,hI⟩:=zof os i (by omega)
 have hend:¬ (i<os.length∧i<12)→(os.take i).foldl runW zbY=playW os:=fun hn=>by
  unfold playW
  by_cases h12:i=12
  ·rw[h12]
  ·rw[List.take_of_length_le (by omega),List.take_of_length_le (by omega)]
 obtain⟨w,hw⟩:∃w,w=(os.take i).foldl runW zbY:=⟨_,rfl⟩
 rw[←hw] at hW hend hI
 obtain⟨x0,x1,x2,y0,y1,y2,e,h0,h1,h2,h3,h4,h5⟩:=hW
 have e:=congrArg Array.toList (Value.agg.inj e)
 rw[List.toList_toArray,List.toList_toArray] at e
 subst e
 simp only[za2,zpu,boxc,List.map_cons,List.map_nil] at hE ⊢
 obtain⟨a0,c0,rfl,_⟩:=h0.form
 obtain⟨a1,c1,rfl,_⟩:=h1.form
 obtain⟨a2,c2,rfl,_⟩:=h2.form
 obtain⟨a3,c3,rfl,_⟩:=h3.form
 obtain⟨a4,c4,rfl,_⟩:=h4.form
 obtain⟨a5,c5,rfl,_⟩:=h5.form
 (simp only[go_sem] at hE;obtain⟨e4,e0,e2,e3⟩:=hE;simp only[go_sem,↓reduceIte,Qa,Qb,reduceCtorEq,e4,e0,e2,e3];dsimp only at *)
 have hret:¬ (i<os.length∧i<12)→WdV R2 (.agg (za2 w (.slice a0 w.n0.edits.length c0) (.slice a1 w.n1.edits.length c1) (.slice a2 w.n2.edits.length c2) (.slice a3 w.c0.edits.length c3) (.slice a4 w.c1.edits.length c4) (.slice a5 w.c2.edits.length c5)).toArray) (playW os):=fun hx=>by
  rw[←hend hx]
  exact⟨_,_,_,_,_,_,rfl,h0,h1,h2,h3,h4,h5⟩
 refine⟨fun hlt=>⟨fun hlt2=>?_,fun hge=>hret (by omega)⟩,fun hge=>hret (by omega)⟩
 have hlt':i<os.length:=by omega
 obtain⟨ad,had,hR⟩:=hf i hlt'
 have hM:=fun v h=>rRun w os[i] v R2 h (hok _ (List.getElem_mem hlt')) (hI.eps hn)
 have hM:=hM _ ⟨_,_,_,_,_,_,rfl,h0,h1,h2,h3,h4,h5⟩
 simp only[za2] at hM
 refine⟨by omega,vat ad had ?_⟩
 try simp only[go_sem,↓reduceIte]
 refine zaf (os[i]).cells rfl (fun j u hj=>hle2 _ _ (hle1 _ _ (hR j u hj))) ?_
 simp only[go_sem,↓reduceIte,Qa]
 refine vcall hM ?_
 rintro R3 u hle3 ⟨z0,z1,z2,z3,z4,z5,rfl,g0,g1,g2,g3,g4,g5⟩
 obtain⟨a0,c0,rfl,_⟩:=g0.form
 obtain⟨a1,c1,rfl,_⟩:=g1.form
 obtain⟨a2,c2,rfl,_⟩:=g2.form
 obtain⟨a3,c3,rfl,_⟩:=g3.form
 obtain⟨a4,c4,rfl,_⟩:=g4.form
 obtain⟨a5,c5,rfl,_⟩:=g5.form
 simp only[za2]
 simp only[go_sem,↓reduceIte,Qa,Qb,Qe,Qf,reduceCtorEq,e4,e0,e2,e3]
 refine⟨_,W.in64 (by omega),(i+1,za2 (runW w os[i]) (.slice a0 (runW w os[i]).n0.edits.length c0) (.slice a1 (runW w os[i]).n1.edits.length c1) (.slice a2 (runW w os[i]).n2.edits.length c2) (.slice a3 (runW w os[i]).c0.edits.length c3) (.slice a4 (runW w os[i]).c1.edits.length c4) (.slice a5 (runW w os[i]).c2.edits.length c5)),[],?_⟩
 try simp only[go_sem,Qd]
 refine⟨by omega,⟨rfl,rfl⟩,⟨zcd _ _,by decide⟩,by omega,by omega,?_⟩
 rw[zko os i hlt',←hw]
 exact⟨_,_,_,_,_,_,rfl,g0,g1,g2,g3,g4,g5⟩
end Go.Proofs.YtdgndfabdmecmaaGreat
namespace Go.Proofs.YtdgndfabdmecmaaGreat
open Go.Proofs.YtdgndfabdmecmaaGreat.Vc
abbrev Dp:=Dv×Option Addr×Nat
def Dp.v(p:Dp):Value := .slice p.2.1 p.1.edits.length p.2.2
def Dp.zero:Dp:=(⟨0,0,0,[]⟩,none,0)
def all12(p q r:Dp):List SV:=[.val (.int .i64 p.1.id),.val (.int .i64 p.1.epoch),.val (.int .i64 p.1.next),.val (.slice p.2.1 p.1.edits.length p.2.2),.val (.int .i64 q.1.id),.val (.int .i64 q.1.epoch),.val (.int .i64 q.1.next),.val (.slice q.2.1 q.1.edits.length q.2.2),.val (.int .i64 r.1.id),.val (.int .i64 r.1.epoch),.val (.int .i64 r.1.next),.val (.slice r.2.1 r.1.edits.length r.2.2)]
def DpOK(w:Wd)(n:Nat)(R:RO)(p:Dp):Prop:=AllK w n p.1∧EdsV R p.v p.1.edits
theorem DpOK.mono{w:Wd}{n:Nat}{R R':RO}{p:Dp}(h:DpOK w n R p)(hle:RO.le R R'):DpOK w n R' p:=⟨h.1,h.2.mono hle⟩
set_option maxHeartbeats 16000000 in
theorem zjK(R:RO)(os:List Opn)(v:Value)(h:OpC R v os)(s:Ed)(rw':Rw)(hw:RwOK rw')(g o:Value)(hg:U8s R g rw'.gaps)(ho:U8s R o rw'.offs):zaa Tryz.prog 5 [v,s.val,.agg (rw'.cells g o).toArray] R fun _ v=>v = .bool true:=by
 have hP:=fun R' hle=>rMade os v R' (OpC.mono (R':=R') h hle)
 have hMs:=fun R'=>ziq s.minute [] (.slice none 0 0) R' (EdC.nil R') (by simp)
 have hMz:=fun R' (hle:RO.le R R')=>zqg rw' hw g o R' (hg.mono hle) (ho.mono hle)
 obtain⟨a,cap,rfl,hc,_⟩:=h.form
 obtain⟨ga,gc,rfl,_,_⟩:=hg.form
 obtain⟨oa,oc,rfl,_,_⟩:=ho.form
 simp only[Rw.cells] at hMz ⊢
 simp only[Ed.val]
 refine zac mix Tryz.func5 comp5 (by simp[Tryz.ntmps5]) ?_;simp only[go_sem,↓reduceIte,Qa,vc5,rs5]
 refine vcall (zl6 R) ?_
 rintro R1 v hle1 rfl
 try simp only[go_sem,↓reduceIte,Qa,Qb,reduceCtorEq]
 obtain⟨n,M,hn,hI⟩:=zoe os
 have hwm:=zoh os
 obtain⟨w,hw'⟩:∃w,w=playW os:=⟨_,rfl⟩
 rw[←hw'] at hP hI hwm
 refine vcall (hP R1 hle1) ?_
 rintro R2 u hle2 ⟨x0,x1,x2,y0,y1,y2,rfl,h0,h1,h2,h3,h4,h5⟩
 obtain⟨a0,c0,rfl,_⟩:=h0.form
 obtain⟨a1,c1,rfl,_⟩:=h1.form
 obtain⟨a2,c2,rfl,_⟩:=h2.form
 obtain⟨a3,c3,rfl,_⟩:=h3.form
 obtain⟨a4,c4,rfl,_⟩:=h4.form
 obtain⟨a5,c5,rfl,_⟩:=h5.form
 simp only[za2]
 try simp only[go_sem,↓reduceIte,Qa]
 refine vcall (hMz R2 (RO.le_trans hle1 hle2)) ?_
 rintro R3 u hle3 ⟨z,nz,L,rfl,hz,hzo⟩
 have hO:=zOpen z nz L R3 hz hzo
 have htn:z.tn≤512:=by have h1:=hz.trans.slen;have h2:=hzo.tlen;omega
 simp only[go_sem,↓reduceIte,Qa,Zv.cells]
 refine vcall (hMs R3) ?_
 rintro R4 u hle4 ⟨rv,mv,rfl,hrv,hmv⟩
 rw[ziI] at hmv
 obtain⟨ra,rn,rc,rfl⟩:=hrv.form
 obtain⟨ma,mcap,rfl,_⟩:=hmv.form
 simp only[go_sem,↓reduceIte,Qa,Qb,Se.cells]
 obtain⟨bw,hbw⟩:∃bw:List SV,bw=boxc (za2 w (.slice a0 w.n0.edits.length c0) (.slice a1 w.n1.edits.length c1) (.slice a2 w.n2.edits.length c2) (.slice a3 w.c0.edits.length c3) (.slice a4 w.c1.edits.length c4) (.slice a5 w.c2.edits.length c5)):=⟨_,rfl⟩
 obtain⟨bz,hbz⟩:∃bz:List SV,bz=[.val (.int .i64 z.ep),.val (.slice z.ma z.mn z.mc),.val (.int .i64 z.leap),.val (.slice z.ra z.rn z.rc),.val (.int .i64 z.start),.val (.slice z.ta z.tn z.tc),.val (.int .i64 z.hor),.val (.slice z.ya z.yn z.yc)]:=⟨_,rfl⟩
 obtain⟨bs,hbs⟩:∃bs:List SV,bs=[.val (.slice ra rn rc),.val (.int .i64 (s.minute%3)),.val (.int .i64 1),.val (.string zA),.val (.int .i64 0),.val (.int .i64 0),.val (.slice ma 0 mcap)]:=⟨_,rfl⟩
 have hzr:∀ρ,bz.map (ren ρ)=bz:=fun ρ=>by rw[hbz];rfl
 have hsr:∀ρ,bs.map (ren ρ)=bs:=fun ρ=>by rw[hbs];rfl
 refine zal (Nat×Dp×Dp×Dp) (fun x=>[(12,.val (.int .i64 x.1)),(7,.val (.bool true)),(8,.loc 0 0),(9,.loc 1 0),(10,.loc 2 0),(11,.loc 3 0)])
  (fun x=>[.box bw,.box bz,.box bs,.box (all12 x.2.1 x.2.2.1 x.2.2.2)]) (fun x R=>x.1≤3∧(0<x.1→DpOK w n R x.2.1)∧(1<x.1→DpOK w n R x.2.2.1)∧(2<x.1→DpOK w n R x.2.2.2)) (fun x=>3-x.1) (0,Dp.zero,Dp.zero,Dp.zero) [2,3,4,5] ?_ ?_ ?_ ?_
 ·simp only[hbw,hbz,hbs,all12,Dp.zero,boxc,za2,List.map_cons,List.map_nil]
  (try simp only[go_sem,↓reduceIte,Qa,Qb])<;>(repeat' (first|rfl|trivial|constructor|(intro h;exact absurd rfl h)))
 ·try simp only[go_sem,Qb,Qe,Qf]
  exact⟨⟨by rw[hbw];exact zcd _ _,by rw[hbz];rfl,by rw[hbs];rfl,rfl⟩,rfl⟩
 ·exact⟨by decide,fun h=>absurd h (by decide),fun h=>absurd h (by decide),fun h=>absurd h (by decide)⟩
 rintro⟨i,p,q,r⟩ env R5 hle5 hE ⟨hi,hp,hq,hr⟩
 dsimp only at hi hp hq hr
 have hle25:RO.le R2 R5:=RO.le_trans hle3 (RO.le_trans hle4 hle5)
 have hci:i=0∨i=1∨i=2∨i=3:=by omega
 simp only[go_sem] at hE
 obtain⟨e12,e7,e8,e9,e10,e11⟩:=hE
 dsimp only
 have t1:(1:Int).tmod 3=1:=by decide
 have t2:(2:Int).tmod 3=2:=by decide
 have t3:(3:Int).tmod 3=0:=by decide
 have t4:(4:Int).tmod 3=1:=by decide
 rcases hci with rfl|rfl|rfl|rfl
 ·obtain⟨d1,d2,hy1,hy2,hAK⟩:=sync2 hI (by omega) (i:=0) (j:=1) (k:=2) (by omega) (by omega) (by omega) (by omega)
  have hS1:=dSync w.n0 w.n1 _ _ R5 (h0.mono hle25) (h1.mono hle25)
  have hS2:=fun va R' (hle:RO.le R5 R') (hva:EdsV R' va d1.edits)=>dSync d1 w.n2 va _ R' hva (h2.mono (RO.le_trans hle25 hle))
  rw[show zaC w.n0 w.n1 = .ok d1 from hy1] at hS1
  simp only[show zaC d1 w.n2 = .ok d2 from hy2] at hS2
  rw[show((0:Nat):Int)=0 from rfl] at e12
  simp only[hbw,boxc,za2,List.map_cons,List.map_nil,all12]
  simp only[zai] at hS1 hS2
  try simp only[go_sem,↓reduceIte,Qa,Qb,Ja,Jb,Jc,Jd,Je,e12,e8]
  refine⟨1,W.in64 (by decide),?_⟩
  try simp only[go_sem,↓reduceIte,Qa,Qb,Qc,Ja,Jb,Jc,t1]
  refine vcall hS1 ?_
  rintro R6 r1 hle6 ⟨va,rfl,hva⟩
  obtain⟨da,dc,rfl,_⟩:=hva.form
  simp only[zai]
  try simp only[go_sem,↓reduceIte,Qa,Qb,Jd,Je,e12,e8]
  refine⟨2,W.in64 (by decide),?_⟩
  try simp only[go_sem,↓reduceIte,Qa,Qb,Qc,Ja,Jb,Jc,t2]
  refine vcall (hS2 _ R6 hle6 hva) ?_
  rintro R7 r2 hle7 ⟨vb,rfl,hvb⟩
  obtain⟨db,dd,rfl,_⟩:=hvb.form
  simp only[zai]
  try simp only[go_sem,↓reduceIte,Qa,Qb,Qd,Qe,Qf,Ja,Jb,Jc,Jd,e12,e7,e8,e9,e10,e11]
  have hdp:DpOK w n R7 (d2,db,dd):=⟨hAK,hvb⟩
  refine⟨1,W.in64 (by decide),(1,(d2,db,dd),q,r),[0,1,2,3],by dsimp only;omega,?_,?_,⟨by dsimp only;omega,fun _=>hdp,fun h=>absurd h (by dsimp only;omega),fun h=>absurd h (by dsimp only;omega)⟩⟩
  ·simp only[hbw,boxc,za2,List.map_cons,List.map_nil]
   (try simp only[go_sem])<;>(repeat' (first|rfl|trivial|constructor|(intro h;exact absurd rfl h)))
   ·exact(hzr _).symm
   ·exact(hsr _).symm
  ·try simp only[go_sem,↓reduceIte,Qa,Qb,Qc,Qd,Qe,Qf,reduceCtorEq]
   exact⟨⟨by rw[hbw];exact zcd _ _,by rw[hbz];rfl,by rw[hbs];rfl⟩,rfl⟩
 ·obtain⟨d1,d2,hy1,hy2,hAK⟩:=sync2 hI (by omega) (i:=1) (j:=2) (k:=0) (by omega) (by omega) (by omega) (by omega)
  have hS1:=dSync w.n1 w.n2 _ _ R5 (h1.mono hle25) (h2.mono hle25)
  have hS2:=fun va R' (hle:RO.le R5 R') (hva:EdsV R' va d1.edits)=>dSync d1 w.n0 va _ R' hva (h0.mono (RO.le_trans hle25 hle))
  rw[show zaC w.n1 w.n2 = .ok d1 from hy1] at hS1
  simp only[show zaC d1 w.n0 = .ok d2 from hy2] at hS2
  rw[show((1:Nat):Int)=1 from rfl] at e12
  simp only[hbw,boxc,za2,List.map_cons,List.map_nil,all12]
  simp only[zai] at hS1 hS2
  try simp only[go_sem,↓reduceIte,Qa,Qb,Qc,Ja,Jb,Jc,Jd,Je,e12,e8]
  refine⟨2,W.in64 (by decide),?_⟩
  try simp only[go_sem,↓reduceIte,Qa,Qb,Qc,Ja,Jb,Jc,t2]
  refine vcall hS1 ?_
  rintro R6 r1 hle6 ⟨va,rfl,hva⟩
  obtain⟨da,dc,rfl,_⟩:=hva.form
  simp only[zai]
  try simp only[go_sem,↓reduceIte,Qa,Qb,Jd,Je,e12,e8]
  refine⟨3,W.in64 (by decide),?_⟩
  try simp only[go_sem,↓reduceIte,Qa,Qb,Ja,Jb,Jc,t3]
  refine vcall (hS2 _ R6 hle6 hva) ?_
  rintro R7 r2 hle7 ⟨vb,rfl,hvb⟩
  obtain⟨db,dd,rfl,_⟩:=hvb.form
  simp only[zai]
  try simp only[go_sem,↓reduceIte,Qa,Qb,Qc,Qd,Qe,Qf,Ja,Jb,Jc,Jd,e12,e7,e8,e9,e10,e11]
  have hdp:DpOK w n R7 (d2,db,dd):=⟨hAK,hvb⟩
  refine⟨2,W.in64 (by decide),(2,p,(d2,db,dd),r),[0,1,2,3],by dsimp only;omega,?_,?_,⟨by dsimp only;omega,fun _=>(hp (by decide)).mono (RO.le_trans hle6 hle7),fun _=>hdp,fun h=>absurd h (by dsimp only;omega)⟩⟩
  ·simp only[hbw,boxc,za2,List.map_cons,List.map_nil]
   (try simp only[go_sem])<;>(repeat' (first|rfl|trivial|constructor|(intro h;exact absurd rfl h)))
   ·exact(hzr _).symm
   ·exact(hsr _).symm
  ·try simp only[go_sem,↓reduceIte,Qa,Qb,Qc,Qd,Qe,Qf,reduceCtorEq]
   exact⟨⟨by rw[hbw];exact zcd _ _,by rw[hbz];rfl,by rw[hbs];rfl⟩,rfl⟩
 ·obtain⟨d1,d2,hy1,hy2,hAK⟩:=sync2 hI (by omega) (i:=2) (j:=0) (k:=1) (by omega) (by omega) (by omega) (by omega)
  have hS1:=dSync w.n2 w.n0 _ _ R5 (h2.mono hle25) (h0.mono hle25)
  have hS2:=fun va R' (hle:RO.le R5 R') (hva:EdsV R' va d1.edits)=>dSync d1 w.n1 va _ R' hva (h1.mono (RO.le_trans hle25 hle))
  rw[show zaC w.n2 w.n0 = .ok d1 from hy1] at hS1
  simp only[show zaC d1 w.n1 = .ok d2 from hy2] at hS2
  rw[show((2:Nat):Int)=2 from rfl] at e12
  simp only[hbw,boxc,za2,List.map_cons,List.map_nil,all12]
  simp only[zai] at hS1 hS2
  try simp only[go_sem,↓reduceIte,Qa,Qb,Qc,Ja,Jb,Jc,Jd,Je,e12,e8]
  refine⟨3,W.in64 (by decide),?_⟩
  try simp only[go_sem,↓reduceIte,Qa,Qb,Ja,Jb,Jc,t3]
  refine vcall hS1 ?_
  rintro R6 r1 hle6 ⟨va,rfl,hva⟩
  obtain⟨da,dc,rfl,_⟩:=hva.form
  simp only[zai]
  try simp only[go_sem,↓reduceIte,Qa,Qb,Jd,Je,e12,e8]
  refine⟨4,W.in64 (by decide),?_⟩
  try simp only[go_sem,↓reduceIte,Qa,Qb,Qc,Ja,Jb,Jc,t4]
  refine vcall (hS2 _ R6 hle6 hva) ?_
  rintro R7 r2 hle7 ⟨vb,rfl,hvb⟩
  obtain⟨db,dd,rfl,_⟩:=hvb.form
  simp only[zai]
  try simp only[go_sem,↓reduceIte,Qa,Qb,Qc,Qe,Qf,Ja,Jb,Jc,Jd,e12,e7,e8,e9,e10,e11]
  have hdp:DpOK w n R7 (d2,db,dd):=⟨hAK,hvb⟩
  refine⟨3,W.in64 (by decide),(3,p,q,(d2,db,dd)),[0,1,2,3],by dsimp only;omega,?_,?_,⟨by dsimp only;omega,fun _=>(hp (by decide)).mono (RO.le_trans hle6 hle7),fun _=>(hq (by decide)).mono (RO.le_trans hle6 hle7),fun _=>hdp⟩⟩
  ·simp only[hbw,boxc,za2,List.map_cons,List.map_nil]
   (try simp only[go_sem])<;>(repeat' (first|rfl|trivial|constructor|(intro h;exact absurd rfl h)))
   ·exact(hzr _).symm
   ·exact(hsr _).symm
  ·try simp only[go_sem,↓reduceIte,Qa,Qb,Qc,Qd,Qe,Qf,reduceCtorEq]
   exact⟨⟨by rw[hbw];exact zcd _ _,by rw[hbz];rfl,by rw[hbs];rfl⟩,rfl⟩
 ·replace hp:=hp (by decide)
  replace hq:=hq (by decide)
  replace hr:=hr (by decide)
  rw[show((3:Nat):Int)=3 from rfl] at e12
  simp only[all12,hbs]
  try simp only[go_sem,↓reduceIte,Qa,Qb,Ja,Jb,Jc,Jd,e12,e10,e11]
  obtain⟨hpK,hpE⟩:=hp
  have hcd:=ziH hpK.val
  have hpl:=hpK.len
  obtain⟨o,ho1,ho2,ho3⟩:=zlx hcd (by omega)
  have hoe:o=p.1.edits:=zae.ext ho2 (zas hpK.val).2 ho3
  have hvo:∀d∈o,zak d=true:=fun d hd=>hcd.1 d ((ho3 d).1 hd)
  have hmdo:∀d∈o,MdD d:=fun d hd=>by
   obtain⟨q,hq3,hdq⟩:=(hpK.mem d).1 ((ho3 d).1 hd)
   exact(hwm q hq3).1 d hdq
  obtain⟨S,hS⟩:∃S:Se,S=⟨.slice ra rn rc,s.minute%3,1,zA,0,0,.slice ma 0 mcap⟩:=⟨_,rfl⟩
  have hSc:S.cells=[.slice ra rn rc,.int .i64 (s.minute%3),.int .i64 1,.string zA,.int .i64 0,.int .i64 0,.slice ma 0 mcap]:=by rw[hS];rfl
  have hSr:S.rule = .slice ra rn rc:=by rw[hS]
  have hSm:S.moves = .slice ma 0 mcap:=by rw[hS]
  have hSl:S.length=1:=by rw[hS]
  have hSe:=fun(d:Dv) (u:Value) (R':RO) (hle:RO.le R4 R') (hu:EdsV R' u d.edits) (hdl:d.edits.length≤n)=>ziF S (ruleN s.minute) [] d u R' (by rw[hSr];exact hrv.mono hle) (by rw[hSm];exact hmv.mono hle) hu (by simp;omega)
  simp only[hSc,zai] at hSe
  have hti:TiOK (S.ti (ruleN s.minute)):=by
   rw[hS]
   exact⟨zhH s.minute,(by show 0≤s.minute%3∧s.minute%3≤1439;omega),(by show(1:Int)≤1∧(1:Int)≤10080;omega),(by show(0:Int)≤0∧(0:Int)≤2;omega),(by show(0:Int)≤0∧(0:Int)≤2;omega),(by show 1≤zA.size∧zA.size≤32;decide)⟩
  have hol:o.length≤12:=by rw[hoe];omega
  have hPok:=zn6 S (ruleN s.minute) [] ho2 hvo hmdo rfl hti (by simp;omega)
  have hPf:=fun x (hx0:0≤x∧x≤1099511627776)=>zdK S (ruleN s.minute) [] (x:=x) ho2 hvo rfl (by omega) hx0
  have hPm:=fun(x:Int) (a:Nat)=>zkr S (ruleN s.minute) (x:=x) (a:=a) ho2 hvo (by omega)
  refine vcall (hSe p.1 _ R5 hle5 hpE hpl) ?_
  intro R6 r1 hle6 hr1
  unfold SerV zdA at hr1
  rw[if_pos hpK.val,ho1] at hr1
  dsimp only at hr1
  rw[if_neg (by simp[zaR,hSl])] at hr1
  obtain⟨p1,q1,rfl,hp1,hq1⟩:=hr1
  obtain⟨Q,hQ⟩:∃Q,Q=recsD o:=⟨_,rfl⟩
  rw[←hQ] at hq1
  obtain⟨P,hP⟩:∃P,P=mergeP S (ruleN s.minute) [] o:=⟨_,rfl⟩
  rw[←hP] at hp1 hPok
  simp only[←hP] at hPf hPm
  have hp1':=hp1
  obtain⟨p1a,p1c,rfl,_⟩:=hp1'.form
  obtain⟨q1a,q1c,rfl,hq1c,hq1f⟩:=hq1.form
  try simp only[go_sem,↓reduceIte,Qa,Ja,Jb,Jc,Jd,e11]
  refine vcall (zlr p.1.edits _ R6 (hpE.mono hle6)) ?_
  intro R7 r2 hle7 hr2
  unfold RebV at hr2
  rw[ho1] at hr2
  obtain⟨u2,w2,rfl,hu2,hw2⟩:=hr2
  obtain⟨w2a,w2c,rfl,_⟩:=hw2.form
  obtain⟨F,hF⟩:∃F,F=forceD o:=⟨_,rfl⟩
  rw[←hF] at hu2
  obtain⟨fa,fcap,rfl,hfc,hff⟩:=PlOK.of hu2
  have hfr:=zkq o
  rw[←hF,show o.length=p.1.edits.length from by rw[hoe]] at hfr
  rw[←hQ] at hfr
  try simp only[go_sem,↓reduceIte,Qa,Ja,Jb,Jc,Jd,e11]
  refine⟨_,W.in64 (by omega),fun hne=>absurd (by omega) hne,fun _=>?_⟩
  obtain⟨ba,hba⟩:∃ba,ba=all12 p q r:=⟨_,rfl⟩
  have har:∀ρ,ba.map (ren ρ)=ba:=fun ρ=>by rw[hba];rfl
  have hwr:∀ρ,bw.map (ren ρ)=bw:=fun ρ=>by rw[hbw];rfl
  have hok:∀n,bw.all (SV.ok n)=true∧bz.all (SV.ok n)=true∧bs.all (SV.ok n)=true∧ba.all (SV.ok n)=true:=fun n=>⟨by rw[hbw];exact zcd _ _,by rw[hbz];rfl,by rw[hbs];rfl,by rw[hba];rfl⟩
  have hmt:∀ρ,bw=bw.map (ren ρ)∧bz=bz.map (ren ρ)∧bs=bs.map (ren ρ)∧ba=ba.map (ren ρ):=fun ρ=>⟨(hwr ρ).symm,(hzr ρ).symm,(hsr ρ).symm,(har ρ).symm⟩
  have hs0:bs[0]?=some (.val (.slice ra rn rc)):=by rw[hbs];rfl
  have hs1:bs[1]?=some (.val (.int .i64 (s.minute%3))):=by rw[hbs];rfl
  have hs2:bs[2]?=some (.val (.int .i64 1)):=by rw[hbs];rfl
  have hs3:bs[3]?=some (.val (.string zA)):=by rw[hbs];rfl
  have hs4:bs[4]?=some (.val (.int .i64 0)):=by rw[hbs];rfl
  have hs5:bs[5]?=some (.val (.int .i64 0)):=by rw[hbs];rfl
  have hs6:bs[6]?=some (.val (.slice ma 0 mcap)):=by rw[hbs];rfl
  have hz0:bz[0]?=some (.val (.int .i64 z.ep)):=by rw[hbz];rfl
  have hz1:bz[1]?=some (.val (.slice z.ma z.mn z.mc)):=by rw[hbz];rfl
  have hz2:bz[2]?=some (.val (.int .i64 z.leap)):=by rw[hbz];rfl
  have hz3:bz[3]?=some (.val (.slice z.ra z.rn z.rc)):=by rw[hbz];rfl
  have hz4:bz[4]?=some (.val (.int .i64 z.start)):=by rw[hbz];rfl
  have hz5:bz[5]?=some (.val (.slice z.ta z.tn z.tc)):=by rw[hbz];rfl
  have hz6:bz[6]?=some (.val (.int .i64 z.hor)):=by rw[hbz];rfl
  have hz7:bz[7]?=some (.val (.slice z.ya z.yn z.yc)):=by rw[hbz];rfl
  have hbx:∀{l:List SV} {ρ:List Nat},l=l.map (ren ρ)→some (Blk.box l)=some (Blk.box (l.map (ren ρ))):=fun h=>by rw[←h]
  have hb4:∀ρ,some (Blk.box bw)=some (Blk.box (bw.map (ren ρ)))∧some (Blk.box bz)=some (Blk.box (bz.map (ren ρ)))∧some (Blk.box bs)=some (Blk.box (bs.map (ren ρ)))∧some (Blk.box ba)=some (Blk.box (ba.map (ren ρ))):=fun ρ=>⟨hbx (hmt ρ).1,hbx (hmt ρ).2.1,hbx (hmt ρ).2.2.1,hbx (hmt ρ).2.2.2⟩
  refine zal Nat (fun i=>[(21,.val (.int .i64 i)),(7,.val (.bool true)),(8,.loc 0 0),(9,.loc 1 0),(10,.loc 2 0),(11,.loc 3 0),(15,.val (.slice p1a P.length p1c)),(16,.val (.slice q1a Q.length q1c)),(18,.val (.slice fa F.length fcap))]) (fun _=>[.box bw,.box bz,.box bs,.box ba]) (fun i _=>i≤3) (fun i=>3-i) 0 [0,1,2,3] ?_ ?_ ?_ ?_
  ·simp only[hba,hbs,all12]
   (try simp only[go_sem,↓reduceIte,Qa,Qb])<;>(repeat' (first|rfl|trivial|constructor|(intro h;exact absurd rfl h)))
   ·exact(hwr _).symm
   ·exact(hzr _).symm
  ·try simp only[go_sem,Qb,Qe,Qf]
   exact⟨hok 4,rfl⟩
  ·exact Nat.zero_le _
  rintro i env1 R8 hle8 hE hi
  (simp only[go_sem] at hE;obtain⟨f21,f7,f8,f9,f10,f11,f15,f16,f18⟩:=hE;simp only[go_sem,↓reduceIte,Qb,f21];dsimp only at *)
  refine⟨fun hlt=>?_,fun hge=>?_⟩
  ·have hi3:i<3:=by omega
   obtain⟨da,dc,hcell,hdE⟩:∃da dc,bw[i*4+3]?=some (.val (.slice da (w.now i).edits.length dc))∧EdsV R2 (.slice da (w.now i).edits.length dc) (w.now i).edits:=by
    rcases lt3 hi3 with rfl|rfl|rfl
    ·exact⟨a0,c0,by rw[hbw];rfl,h0⟩
    ·exact⟨a1,c1,by rw[hbw];rfl,h1⟩
    ·exact⟨a2,c2,by rw[hbw];rfl,h2⟩
   have hle28:RO.le R2 R8:=RO.le_trans hle25 (RO.le_trans hle6 (RO.le_trans hle7 hle8))
   have hnl:=hI.shape hi3
   have hsub:∀x∈(w.now i).edits,x∈o:=fun x hx=>(ho3 x).2 ((hpK.mem x).2 ⟨i,hi3,hx⟩)
   obtain⟨D,hD⟩:∃D,D=(w.now i).edits:=⟨_,rfl⟩
   rw[←hD] at hcell hdE hnl hsub
   have hdf:=(PlOK.of hdE)
   obtain⟨_,_,e0,_,hdf⟩:=hdf
   simp only[Value.slice.injEq] at e0
   obtain⟨rfl,_,rfl⟩:=e0
   refine zal Nat (fun k=>[(22,.val (.int .i64 k)),(21,.val (.int .i64 i)),(7,.val (.bool true)),(8,.loc 0 0),(9,.loc 1 0),(10,.loc 2 0),(11,.loc 3 0),(15,.val (.slice p1a P.length p1c)),(16,.val (.slice q1a Q.length q1c)),(18,.val (.slice fa F.length fcap))]) (fun _=>[.box bw,.box bz,.box bs,.box ba]) (fun k _=>k≤D.length) (fun k=>D.length-k) 0 [0,1,2,3] ?_ ?_ ?_ ?_
   ·try simp only[go_sem,↓reduceIte,Qa,Qb,f21,f7,f8,f9,f10,f11,f15,f16,f18]
    exact⟨rfl,hmt _⟩
   ·try simp only[go_sem,Qb,Qe,Qf]
    exact⟨hok 4,rfl⟩
   ·exact Nat.zero_le _
   rintro k env2 R9 hle9 hE hk
   (simp only[go_sem] at hE;obtain⟨g22,g21,g7,g8,g9,g10,g11,g15,g16,g18⟩:=hE;simp only[go_sem,↓reduceIte,Qa,Qb,g22,g21,g8];dsimp only at *)
   refine⟨by omega,?_⟩
   try simp only[go_sem,↓reduceIte,Qa,Qb,hcell,g22,g21,g8,g10]
   refine⟨fun hltk=>?_,fun hgek=>?_⟩
   ·have hk':k<D.length:=by omega
    obtain⟨ad,pl,had,hpl1,hRk,_⟩:=hdf k hk'
    refine⟨by omega,?_⟩
    try simp only[go_sem,↓reduceIte,Qa,Qb,Qc,Qd,Qe,Qf,reduceCtorEq,hcell,g22,g21,g7,g8,g9,g10,g11,g15,g16,g18]
    refine⟨hltk,vat ad had ?_⟩
    try simp only[go_sem,↓reduceIte]
    refine zaf pl.ed.cells rfl (fun j u hj=>RO.le_trans hle28 hle9 _ _ (hRk j u hj)) ?_
    simp only[go_sem,↓reduceIte,Qa,Qb,Ed.cells,Pl.ed,De.ed]
    obtain⟨bk,hbk⟩:∃bk:List SV,bk=boxc pl.ed.cells:=⟨_,rfl⟩
    have hkr:∀ρ,bk=bk.map (ren ρ):=fun ρ=>by rw[hbk];rfl
    have hk2:bk[2]?=some (.val (.int .i64 pl.1.device)):=by rw[hbk];rfl
    have hk3:bk[3]?=some (.val (.int .i64 pl.1.seq)):=by rw[hbk];rfl
    have hkok:∀n,bk.all (SV.ok n)=true:=fun n=>by rw[hbk];exact zcd _ _
    have hok5:bw.all (SV.ok 5)=true∧bz.all (SV.ok 5)=true∧bs.all (SV.ok 5)=true∧ba.all (SV.ok 5)=true∧bk.all (SV.ok 5)=true:=⟨(hok 5).1,(hok 5).2.1,(hok 5).2.2.1,(hok 5).2.2.2,hkok 5⟩
    have hb5:∀ρ,some (Blk.box bw)=some (Blk.box (bw.map (ren ρ)))∧some (Blk.box bz)=some (Blk.box (bz.map (ren ρ)))∧some (Blk.box bs)=some (Blk.box (bs.map (ren ρ)))∧some (Blk.box ba)=some (Blk.box (ba.map (ren ρ)))∧some (Blk.box bk)=some (Blk.box (bk.map (ren ρ))):=fun ρ=>⟨(hb4 ρ).1,(hb4 ρ).2.1,(hb4 ρ).2.2.1,(hb4 ρ).2.2.2,hbx (hkr ρ)⟩
    have hle69:RO.le R6 R9:=RO.le_trans hle7 (RO.le_trans hle8 hle9)
    refine zal Nat (fun n=>[(25,.val (.int .i64 n)),(24,.val (.int .i64 ((F.take n).countP (kf pl.1)))),(23,.loc 4 0),(22,.val (.int .i64 k)),(21,.val (.int .i64 i)),(7,.val (.bool true)),(8,.loc 0 0),(9,.loc 1 0),(10,.loc 2 0),(11,.loc 3 0),(15,.val (.slice p1a P.length p1c)),(16,.val (.slice q1a Q.length q1c)),(18,.val (.slice fa F.length fcap))]) (fun _=>[.box bw,.box bz,.box bs,.box ba,.box bk]) (fun n _=>n≤F.length) (fun n=>F.length-n) 0 [0,1,2,3,4] ?_ ?_ ?_ ?_
    ·try simp only[go_sem,↓reduceIte,Qa,Qb,g22,g21,g7,g8,g9,g10,g11,g15,g16,g18]
     exact⟨⟨rfl,rfl⟩,(hmt _).1,(hmt _).2.1,(hmt _).2.2.1,(hmt _).2.2.2,by rw[←hkr,hbk];rfl⟩
    ·try simp only[go_sem,Qb,Qe,Qf]
     exact⟨hok5,rfl⟩
    ·exact Nat.zero_le _
    rintro m env3 R10 hle10 hE hm
    (simp only[go_sem] at hE;obtain⟨j25,j24,j23,j22,j21,j7,j8,j9,j10,j11,j15,j16,j18⟩:=hE;simp only[go_sem,↓reduceIte,Qa,Qb,j25,j18];dsimp only at *)
    have hcb:(F.take m).countP (kf pl.1)≤m:=Nat.le_trans List.countP_le_length (by rw[List.length_take];omega)
    refine⟨fun hltm=>?_,fun hgem=>?_⟩
    ·have hm':m<F.length:=by omega
     obtain⟨adm,pm,hadm,hpm1,hRm,_⟩:=hff m hm'
     have hcs:(F.take (m+1)).countP (kf pl.1)=(F.take m).countP (kf pl.1)+(if kf pl.1 pm.1=true then 1 else 0):=by rw[List.take_succ_eq_append_getElem hm',List.countP_append,List.countP_singleton,hpm1]
     refine⟨hltm,vat adm hadm ?_⟩
     try simp only[go_sem,↓reduceIte,Qb]
     refine vload (.int .i64 pm.1.device) (RO.le_trans (RO.le_trans hle8 hle9) hle10 _ _ (hRm 2 _ rfl)) ?_
     try simp only[go_sem,↓reduceIte,Qa,Qb,Qe,Qf,hk2,j25,j24,j23,j22,j21,j7,j8,j9,j10,j11,j15,j16,j18]
     refine⟨fun he1=>⟨hltm,vat adm hadm ?_⟩,fun hne1=>?_⟩
     ·try simp only[go_sem,↓reduceIte,Qa,Qb]
      refine vload (.int .i64 pm.1.seq) (RO.le_trans (RO.le_trans hle8 hle9) hle10 _ _ (hRm 3 _ rfl)) ?_
      try simp only[go_sem,↓reduceIte,Qa,Qb,Qe,Qf,hk3,j25,j24,j23,j22,j21,j7,j8,j9,j10,j11,j15,j16,j18]
      refine⟨fun he2=>?_,fun hne2=>?_⟩
      ·rw[if_pos (by unfold kf;simp[he1,he2])] at hcs
       refine⟨_,W.in64 (by omega),_,W.in64 (by omega),m+1,[0,1,2,3,4],by omega,?_,⟨hok5,rfl⟩,by omega⟩
       rw[hcs]
       exact⟨⟨by norm_cast,by norm_cast,rfl,rfl,rfl,rfl,rfl⟩,hb5 _⟩
      ·rw[if_neg (by unfold kf;simp[hne2])] at hcs
       refine⟨_,W.in64 (by omega),m+1,[0,1,2,3,4],by omega,?_,⟨hok5,rfl⟩,by omega⟩
       rw[hcs]
       exact⟨⟨by norm_cast,rfl,rfl,rfl,rfl,rfl,rfl⟩,hb5 _⟩
     ·rw[if_neg (by unfold kf;simp[hne1])] at hcs
      refine⟨_,W.in64 (by omega),m+1,[0,1,2,3,4],by omega,?_,⟨hok5,rfl⟩,by omega⟩
      rw[hcs]
      exact⟨⟨by norm_cast,rfl,rfl,rfl,rfl,rfl,rfl⟩,hb5 _⟩
    obtain rfl:m=F.length:=by omega
    rw[List.take_length] at j24 hcb
    refine zal Nat (fun n=>[(26,.val (.int .i64 n)),(24,.val (.int .i64 ((F.countP (kf pl.1)+(Q.take n).countP (kr pl.1):Nat)))),(23,.loc 4 0),(22,.val (.int .i64 k)),(21,.val (.int .i64 i)),(7,.val (.bool true)),(8,.loc 0 0),(9,.loc 1 0),(10,.loc 2 0),(11,.loc 3 0),(15,.val (.slice p1a P.length p1c)),(16,.val (.slice q1a Q.length q1c)),(18,.val (.slice fa F.length fcap))]) (fun _=>[.box bw,.box bz,.box bs,.box ba,.box bk]) (fun n _=>n≤Q.length) (fun n=>Q.length-n) 0 [0,1,2,3,4] ?_ ?_ ?_ ?_
    ·try simp only[go_sem,↓reduceIte,Qa,Qb,j24,j23,j22,j21,j7,j8,j9,j10,j11,j15,j16,j18]
     exact⟨⟨rfl,rfl⟩,(hmt _).1,(hmt _).2.1,(hmt _).2.2.1,(hmt _).2.2.2,hkr _⟩
    ·try simp only[go_sem,Qb,Qe,Qf]
     exact⟨hok5,rfl⟩
    ·exact Nat.zero_le _
    rintro m env4 R11 hle11 hE hm
    (simp only[go_sem] at hE;obtain⟨l26,l24,l23,l22,l21,l7,l8,l9,l10,l11,l15,l16,l18⟩:=hE;simp only[go_sem,↓reduceIte,Qa,Qb,Qe,Qf,l26,l24,l22,l21,l7,l8,l9,l10,l11,l15,l16,l18];dsimp only at *)
    have hcq:(Q.take m).countP (kr pl.1)≤m:=Nat.le_trans List.countP_le_length (by rw[List.length_take];omega)
    refine⟨fun hltm=>?_,fun hgem=>?_⟩
    ·have hm':m<Q.length:=by omega
     obtain⟨adm,hadm,hRm⟩:=hq1f m hm'
     have hcs:(Q.take (m+1)).countP (kr pl.1)=(Q.take m).countP (kr pl.1)+(if kr pl.1 Q[m]=true then 1 else 0):=by rw[List.take_succ_eq_append_getElem hm',List.countP_append,List.countP_singleton]
     have hle611:RO.le R6 R11:=RO.le_trans hle69 (RO.le_trans hle10 hle11)
     refine⟨hltm,vat adm hadm ?_⟩
     try simp only[go_sem,↓reduceIte]
     refine vload (.int .i64 (Q[m]).device) (hle611 _ _ (by have:=hRm 0 _ rfl;rwa [Addr.add_zero'] at this)) ?_
     try simp only[go_sem,↓reduceIte,Qa,Qb,Qe,Qf,hk2,l26,l24,l23,l22,l21,l7,l8,l9,l10,l11,l15,l16,l18]
     refine⟨fun he1=>⟨hltm,vat adm hadm ?_⟩,fun hne1=>?_⟩
     ·try simp only[go_sem,↓reduceIte,Qa]
      refine vload (.int .i64 (Q[m]).seq) (hle611 _ _ (hRm 1 _ rfl)) ?_
      try simp only[go_sem,↓reduceIte,Qa,Qb,Qe,Qf,hk3,l26,l24,l23,l22,l21,l7,l8,l9,l10,l11,l15,l16,l18]
      refine⟨fun he2=>?_,fun hne2=>?_⟩
      ·rw[if_pos (by unfold kr;simp[he1,he2])] at hcs
       refine⟨_,W.in64 (by omega),_,W.in64 (by omega),m+1,[0,1,2,3,4],by omega,?_,⟨hok5,rfl⟩,by omega⟩
       rw[hcs]
       exact⟨⟨by norm_cast,by norm_cast,rfl,rfl,rfl,rfl,rfl⟩,hb5 _⟩
      ·rw[if_neg (by unfold kr;simp[hne2])] at hcs
       refine⟨_,W.in64 (by omega),m+1,[0,1,2,3,4],by omega,?_,⟨hok5,rfl⟩,by omega⟩
       rw[hcs]
       exact⟨⟨by norm_cast,rfl,rfl,rfl,rfl,rfl,rfl⟩,hb5 _⟩
     ·rw[if_neg (by unfold kr;simp[hne1])] at hcs
      refine⟨_,W.in64 (by omega),m+1,[0,1,2,3,4],by omega,?_,⟨hok5,rfl⟩,by omega⟩
      rw[hcs]
      exact⟨⟨by norm_cast,rfl,rfl,rfl,rfl,rfl,rfl⟩,hb5 _⟩
    obtain rfl:m=Q.length:=by omega
    have hone:(F.countP (kf pl.1)+(Q.take Q.length).countP (kr pl.1):Nat)=1:=by
     rw[List.take_length,hF,hQ]
     exact zl2 ho2 (hsub _ (by rw[hpl1];exact List.getElem_mem _))
    exact⟨fun hne=>absurd (by rw[hone];rfl) hne,fun _=>⟨_,W.in64 (by omega),k+1,[0,1,2,3],by omega,⟨⟨by norm_cast,rfl,rfl,rfl,rfl⟩,hb4 _⟩,⟨hok 4,rfl⟩,by omega⟩⟩
   obtain⟨e,hae0,hae1,hae2,hae3,heK,heE⟩:∃e:Dp,ba[i*4]?=some (.val (.int .i64 e.1.id))∧ba[i*4+1]?=some (.val (.int .i64 e.1.epoch))∧ba[i*4+2]?=some (.val (.int .i64 e.1.next))∧ba[i*4+3]?=some (.val (.slice e.2.1 e.1.edits.length e.2.2))∧DpOK w n R5 e:=by
    rcases lt3 hi3 with rfl|rfl|rfl
    ·exact⟨p,by rw[hba];rfl,by rw[hba];rfl,by rw[hba];rfl,by rw[hba];rfl,hpK,hpE⟩
    ·exact⟨q,by rw[hba];rfl,by rw[hba];rfl,by rw[hba];rfl,by rw[hba];rfl,hq⟩
    ·exact⟨r,by rw[hba];rfl,by rw[hba];rfl,by rw[hba];rfl,by rw[hba];rfl,hr⟩
   have hee:e.1.edits=p.1.edits:=heK.same hpK
   have hle59:RO.le R5 R9:=RO.le_trans hle6 (RO.le_trans hle7 (RO.le_trans hle8 hle9))
   try simp only[go_sem,↓reduceIte,Qa,Qb,hs0,hs1,hs2,hs3,hs4,hs5,hs6,g21,g11]
   refine⟨by omega,?_⟩
   try simp only[go_sem,↓reduceIte,Qa,hae0,hae1,hae2,hae3]
   refine vcall (hSe e.1 _ R9 (RO.le_trans hle5 hle59) (heE.mono hle59) (by rw[hee];exact hpl)) ?_
   intro R10 r3 hle10 hr3
   unfold SerV zdA at hr3
   rw[if_pos heK.val,hee,ho1] at hr3
   dsimp only at hr3
   rw[if_neg (by simp[zaR,hSl]),←hP,←hQ] at hr3
   obtain⟨p2,q2,rfl,hp2,hq2⟩:=hr3
   have hp2':=hp2
   obtain⟨p2a,p2c,rfl,_⟩:=hp2'.form
   obtain⟨q2a,q2c,rfl,_⟩:=hq2.form
   try simp only[go_sem,↓reduceIte,Qa]
   refine zal Int (fun d=>[(30,.val (.int .i64 d)),(27,.val (.slice p2a P.length p2c)),(21,.val (.int .i64 i)),(7,.val (.bool true)),(8,.loc 0 0),(9,.loc 1 0),(10,.loc 2 0),(11,.loc 3 0),(15,.val (.slice p1a P.length p1c)),(16,.val (.slice q1a Q.length q1c)),(18,.val (.slice fa F.length fcap))]) (fun _=>[.box bw,.box bz,.box bs,.box ba]) (fun d _=>0≤d) (fun d=>(12-d).toNat) 0 [0,1,2,3] ?_ ?_ ?_ ?_
   ·try simp only[go_sem,↓reduceIte,Qa,Qb,g21,g7,g8,g9,g10,g11,g15,g16,g18]
    exact hmt _
   ·try simp only[go_sem,Qb,Qe,Qf]
    exact⟨hok 4,rfl⟩
   ·exact Int.le_refl _
   rintro d env3 R11 hle11 hE hd
   (simp only[go_sem] at hE;obtain⟨m30,m27,m21,m7,m8,m9,m10,m11,m15,m16,m18⟩:=hE;simp only[go_sem,↓reduceIte,Qa,Qb,Qe,Qf,m30,m21,m7,m8,m9,m10,m11,m15,m16,m18];dsimp only at *)
   refine⟨fun hltd=>?_,fun hged=>?_⟩
   ·obtain⟨F1,_,_,_,A,FA0,FA1,FA2,_,_⟩:=hPf d (by omega)
    have hA1:∀i (hi:i<P.length),i≤A→(P[i]).day≤d:=fun i hi hiA=>by
     rcases Nat.eq_or_lt_of_le hiA with rfl|hlt
     ·exact FA1
     ·have:=F1 i A FA0 hlt;omega
    have hSh:=fun u R' (hPu:zdz R' u P) (hle:RO.le R3 R')=>zpv P u z (ckOf nz L) hzo.ck d (by omega) R' hPu (hO.mono hle) htn hPok FA0 hA1 FA2
    simp only[Zv.cells] at hSh
    have hle611:RO.le R6 R11:=RO.le_trans hle7 (RO.le_trans hle8 (RO.le_trans hle9 (RO.le_trans hle10 hle11)))
    have hle311:RO.le R3 R11:=RO.le_trans hle4 (RO.le_trans hle5 (RO.le_trans hle6 hle611))
    try simp only[go_sem,↓reduceIte,Qa,Qb,hz0,hz1,hz2,hz3,hz4,hz5,hz6,hz7,m30]
    refine vcall (hSh _ R11 (hp1.mono hle611) hle311) ?_
    rintro R12 r4 hle12 ⟨u1,rfl,hu1⟩
    obtain⟨u1a,u1c,rfl,_⟩:=hu1.form
    try simp only[go_sem,↓reduceIte,Qa,Qb,hz0,hz1,hz2,hz3,hz4,hz5,hz6,hz7,m30,m27,m9]
    refine vcall (hSh _ R12 (hp2.mono (RO.le_trans hle11 hle12)) (RO.le_trans hle311 hle12)) ?_
    rintro R13 r5 hle13 ⟨u3,rfl,hu3⟩
    obtain⟨u3a,u3c,rfl,_⟩:=hu3.form
    try simp only[go_sem,↓reduceIte,Qa]
    refine vcall (zpX _ _ _ _ R13 (hu1.mono hle13) hu3) ?_
    rintro R14 r6 hle14 rfl
    rw[decide_eq_true rfl]
    try simp only[go_sem,↓reduceIte,Qa,Qb,Qe,Qf,m30,m27,m21,m7,m8,m9,m10,m11,m15,m16,m18]
    exact⟨_,W.in64 (by omega),d+1,[0,1,2,3],by omega,⟨⟨rfl,rfl,rfl,rfl,rfl⟩,hb4 _⟩,⟨hok 4,rfl⟩,by omega⟩
   ·exact⟨_,W.in64 (by omega),i+1,[0,1,2,3],by omega,⟨⟨by norm_cast,rfl,rfl,rfl,rfl⟩,hb4 _⟩,⟨hok 4,rfl⟩,by omega⟩
  ·refine zal Nat (fun i=>[(35,.val (.int .i64 i)),(7,.val (.bool true)),(8,.loc 0 0),(9,.loc 1 0),(10,.loc 2 0),(11,.loc 3 0),(15,.val (.slice p1a P.length p1c)),(16,.val (.slice q1a Q.length q1c)),(18,.val (.slice fa F.length fcap))]) (fun _=>[.box bw,.box bz,.box bs,.box ba]) (fun i _=>i≤F.length) (fun i=>F.length-i) 0 [0,1,2,3] ?_ ?_ ?_ ?_
   ·try simp only[go_sem,↓reduceIte,Qa,Qb,f7,f8,f9,f10,f11,f15,f16,f18]
    exact⟨rfl,hmt _⟩
   ·try simp only[go_sem,Qb,Qe,Qf]
    exact⟨hok 4,rfl⟩
   ·exact Nat.zero_le _
   rintro m env2 R9 hle9 hE hm
   (simp only[go_sem] at hE;obtain⟨g35,g7,g8,g9,g10,g11,g15,g16,g18⟩:=hE;simp only[go_sem,↓reduceIte,Qa,Qb,g35,g7,g18];dsimp only at *)
   have hle79:RO.le R7 R9:=RO.le_trans hle8 hle9
   refine fun hltm=>⟨hltm,?_⟩
   have hm':m<F.length:=by omega
   obtain⟨ad,pm,had,hpm1,hRm,_⟩:=hff m hm'
   have hmF:pm.1∈F:=by rw[hpm1];exact List.getElem_mem _
   refine vat ad had ?_
   try simp only[go_sem,↓reduceIte]
   refine vload (.int .i64 pm.1.kind) (hle79 _ _ (by have:=hRm 0 _ rfl;rwa [Addr.add_zero'] at this)) ?_
   try simp only[go_sem,↓reduceIte,Qa,Qb,Qe,Qf,g35,g7,g8,g9,g10,g11,g15,g16,g18]
   refine⟨fun hk1=>⟨hltm,vat ad had ?_⟩,fun hkne=>⟨_,W.in64 (by omega),m+1,[0,1,2,3],by omega,⟨⟨by norm_cast,rfl,rfl,rfl,rfl⟩,hb4 _⟩,⟨hok 4,rfl⟩,by omega⟩⟩
   try simp only[go_sem,↓reduceIte,Qa]
   refine vload (.int .i64 pm.1.day) (hle79 _ _ (hRm 1 _ rfl)) ?_
   try simp only[go_sem,↓reduceIte,Qa,Qb,Qe,Qf,g35,g7,g8,g9,g10,g11,g15,g16,g18]
   refine⟨fun hge12=>⟨_,W.in64 (by omega),m+1,[0,1,2,3],by omega,⟨⟨by norm_cast,rfl,rfl,rfl,rfl⟩,hb4 _⟩,⟨hok 4,rfl⟩,by omega⟩,fun hlt12=>?_⟩
   have hmo:=zaS.1 (hF▸hmF)
   have hd0:=(zd2 (hvo _ hmo.1)).1
   obtain⟨F1,_,_,_,A,FA0,FA1,FA2,_,_⟩:=hPf pm.1.day (by omega)
   have hA1:∀i (hi:i<P.length),i≤A→(P[i]).day≤pm.1.day:=fun i hi hiA=>by
    rcases Nat.eq_or_lt_of_le hiA with rfl|hlt
    ·exact FA1
    ·have:=F1 i A FA0 hlt;omega
   have hSh:=zpv P _ z (ckOf nz L) hzo.ck pm.1.day (by omega) R9 (hp1.mono (RO.le_trans hle7 hle79)) (hO.mono (RO.le_trans hle4 (RO.le_trans hle5 (RO.le_trans hle6 (RO.le_trans hle7 hle79))))) htn hPok FA0 hA1 FA2
   simp only[Zv.cells] at hSh
   have hmv:mvOnT (P[A]).moves pm.1.day=some pm.1.mv:=hPm pm.1.day A FA0 FA1 FA2 (hF▸hmF) hk1 rfl
   obtain⟨hsd,hsl⟩:=zl3 (k:=ckOf nz L) hmv
   try simp only[go_sem,↓reduceIte,Qa,Qb,hz0,hz1,hz2,hz3,hz4,hz5,hz6,hz7,g35,g18]
   refine⟨hltm,vat ad had ?_⟩
   try simp only[go_sem,↓reduceIte]
   refine vload (.int .i64 pm.1.day) (hle79 _ _ (hRm 1 _ rfl)) ?_
   try simp only[go_sem,↓reduceIte,Qa]
   refine vcall hSh ?_
   rintro R10 r4 hle10 ⟨u1,rfl,hu1⟩
   obtain⟨sh,hsh⟩:∃sh,sh=showP (ckOf nz L) P[A] pm.1.day:=⟨_,rfl⟩
   rw[←hsh] at hu1 hsd hsl
   have hshl:sh.length≤1000000000:=hu1.2
   obtain⟨u1a,u1c,rfl,hu1c,hu1f⟩:=hu1.form
   try simp only[go_sem,↓reduceIte,Qa,g35,g18]
   refine⟨hltm,vat ad had ?_⟩
   try simp only[go_sem,↓reduceIte,Qa,Qb]
   refine vload (.bool pm.1.mv.drop) (RO.le_trans hle79 hle10 _ _ (hRm 5 _ rfl)) ?_
   try simp only[go_sem,↓reduceIte,Qa]
   have hmlen:sh≠[] → -10080≤pm.1.mv.length∧pm.1.mv.length≤10080:=fun hne=>by
    have hdr:pm.1.mv.drop=false:=by
     cases hdr:pm.1.mv.drop with
     |false=>rfl
     |true=>exact absurd (hsd hdr) hne
    have hmk:=(zaO (hvo _ hmo.1) hk1).1
    unfold zaU betw at hmk
    simp[hdr] at hmk
    omega
   refine⟨fun hdr=>⟨fun hgt=>absurd hgt (by rw[hsd hdr];simp),fun _=>?_⟩,fun _=>?_⟩
   all_goals (
    refine zal Nat (fun k=>[(38,.val (.int .i64 k)),(36,.val (.slice u1a sh.length u1c)),(35,.val (.int .i64 m)),(7,.val (.bool true)),(8,.loc 0 0),(9,.loc 1 0),(10,.loc 2 0),(11,.loc 3 0),(15,.val (.slice p1a P.length p1c)),(16,.val (.slice q1a Q.length q1c)),(18,.val (.slice fa F.length fcap))]) (fun _=>[.box bw,.box bz,.box bs,.box ba]) (fun k _=>k≤sh.length) (fun k=>sh.length-k) 0 [0,1,2,3] ?_ ?_ ?_ ?_
    ·try simp only[go_sem,↓reduceIte,Qa,Qb,g35,g7,g8,g9,g10,g11,g15,g16,g18]
     exact⟨rfl,hmt _⟩
    ·try simp only[go_sem,Qb,Qe,Qf]
     exact⟨hok 4,rfl⟩
    ·exact Nat.zero_le _
    rintro k env3 R11 hle11 hE hk
    (simp only[go_sem] at hE;obtain⟨j38,j36,j35,j7,j8,j9,j10,j11,j15,j16,j18⟩:=hE;simp only[go_sem,↓reduceIte,Qa,Qb,Qe,Qf,j38,j36,j35,j7,j8,j9,j10,j11,j15,j16,j18];dsimp only at *)
    refine⟨fun hltk=>?_,fun hgek=>?_⟩
    ·have hk':k<sh.length:=by omega
     obtain⟨adk,hadk,hRk⟩:=hu1f k hk'
     have hle911:RO.le R7 R11:=RO.le_trans hle79 (RO.le_trans hle10 hle11)
     have hyl:=hsl sh[k] (List.getElem_mem _)
     have hml:=hmlen (fun e=>by rw[e] at hk';exact absurd hk' (by simp))
     refine⟨hltk,vat adk hadk ?_⟩
     try simp only[go_sem,↓reduceIte]
     refine vload (.int .i64 (sh[k]).t) (hle11 _ _ (hRk 2 _ rfl)) ?_
     try simp only[go_sem,↓reduceIte,Qa,j38,j36]
     refine⟨hltk,vat adk hadk ?_⟩
     try simp only[go_sem,↓reduceIte]
     refine vload (.int .i64 (sh[k]).f) (hle11 _ _ (hRk 1 _ rfl)) ?_
     try simp only[go_sem,↓reduceIte,Qa,j35,j18]
     refine⟨_,W.in64 (by omega),hltm,vat ad had ?_⟩
     try simp only[go_sem,↓reduceIte,Qb]
     refine vload (.int .i64 pm.1.mv.length) (hle911 _ _ (hRm 8 _ rfl)) ?_
     try simp only[go_sem,↓reduceIte,Qa,Qb,Qe,Qf,hyl,j38,j36,j35,j7,j8,j9,j10,j11,j15,j16,j18]
     exact⟨_,W.in64 (by omega),k+1,[0,1,2,3],by omega,⟨⟨by norm_cast,rfl,rfl,rfl,rfl⟩,hb4 _⟩,⟨hok 4,rfl⟩,by omega⟩
    ·exact⟨_,W.in64 (by omega),m+1,[0,1,2,3],by omega,⟨⟨by norm_cast,rfl,rfl,rfl,rfl⟩,hb4 _⟩,⟨hok 4,rfl⟩,by omega⟩)
end Go.Proofs.YtdgndfabdmecmaaGreat
namespace Go.Proofs.YtdgndfabdmecmaaGreat
open Go.ChangeShapes Go.WideShapes Go.ChangeAt Go.RowKit Go.Joins Go.Proofs.YtdgndfabdmecmaaGreat.Vc
theorem Tryz.own:ownKnob Tryz.prog.godebug=none:=by kernel_rfl
theorem Tryz.laidOut:laidOutB Tryz.prog=true:=by kernel_rfl
section
variable {H:Type} {enc:TypeId×Value→H} {P:Program}
theorem zeK(hl:laidOutB P=true){W W':World}{sp:Nat→Bool}(hb:Ext W W'):∀{ts:List TypeId} {vs:List Value} {ds:List (DataW H)} {ps:List MemPlace},
  (∀t∈ts,P.readableRec t=true∧t<P.types.size)→DataW.TrodAll enc P W 0 (fun _=>true) true ts vs ds ps→(∀x∈ps,x.block<W.heap.size)→(∀x∈ps,sp x.block=true)→DataW.TrodAll enc P W' 0 sp true ts vs ds ps
 |[],[],[],ps,_,h,_,_=>h
 |t::ts,v::vs,d::ds,ps,ht,⟨p,q,h1,h2,he⟩,hlt,hsp=>by
  subst he
  refine⟨p,q,WideElems.Trod_stays hl (ht t (by simp)).1 (ht t (by simp)).2 h1 (fun x hx=>hb.below.same (hlt x (by simp[hx]))) (fun x hx=>hsp x (by simp[hx])),?_,rfl⟩
  exact zeK hl hb (fun t h=>ht t (by simp[h])) h2 (fun x hx=>hlt x (by simp[hx])) (fun x hx=>hsp x (by simp[hx]))
theorem zfA{w:World}{base:Nat}{sp:Nat→Bool}{held:Bool}:∀{ts:List TypeId} {vs:List Value} {ds:List (DataW H)} {ps:List MemPlace},DataW.TrodAll enc P w base sp held ts vs ds ps→ds.length=ts.length
 |[],[],[],ps,_=>rfl
 |t::ts,v::vs,d::ds,ps,⟨p,q,_,h2,_⟩=>by simp[zfA h2]
theorem zok{f:Func}{s:ChangeSpec}{W W':World}{args:Array Value}{ds:List (DataW H)}{ps:List MemPlace}{tb:TypeId}(hl:laidOutB P=true)(hvars:s.vars=[])(hfres:f.resultTypes = #[tb])(hb:P.underlying tb=some .bool)
  (hread:∀t∈f.params.toList,P.readableRec t=true∧t<P.types.size) (hs:s.fn H ds={ results:=[.lit (.bool true)],args:=ds })
  (hW:DataW.Whole enc P f.params.toList s.vars false W args.toList ds [] ps) (hA:DataW.TrodAll enc P W 0 (fun _=>true) true f.params.toList args.toList ds ps) (hext:Ext W W'):s.post enc P f false true false false W args (.bool true) W':=by
 have hlt:∀x∈ps,x.block<W.heap.size:=fun x hx=>hW.lt x hx
 have hds:s.fn H (ds++[])={ results:=[.lit (.bool true)],args:=ds }:=by rw[List.append_nil];exact hs
 have hbool:∀(b:Nat) (sp:Nat→Bool) (hd:Bool),DataW.TrodAll enc P W' b sp hd f.resultTypes.toList ((Value.bool true).resultList f.resultTypes.size) [.lit (.bool true)] []:=fun b sp hd=>by
  rw[hfres]
  exact trodAll_mk1 ⟨1,by simp[DataW.trod,Value.cells,hb]⟩
 have hargs:=fun(sp:Nat→Bool) (hsp:∀x∈ps,sp x.block=true)=>zeK (enc:=enc) hl hext hread hA hlt hsp
 have hnoV:∀sp:Nat→Bool,DataW.TrodVars enc P W' sp s.vars ([]:List (DataW H)) []:=fun sp=>by rw[hvars];rfl
 have hfrozen:W'.noneFrozen ps:=by
  obtain⟨_,_,_,_,_,hz,_⟩:=hW
  intro b off hp
  rw[hext.below.frozen (hlt _ hp)]
  exact hz b off hp
 refine⟨ds,[],ps,[],ps,[],hW,by rw[hds];exact hbool _ _ _,by rw[hds];exact hargs (fun b=>decide (b<W.heap.size)) (fun x hx=>by simpa using hlt x hx),by rw[hds];exact hnoV _,World.keptBut_mono (fun x hx=>⟨hx,.inr (by simpa using hx)⟩) (hext.below.frame (· ∈ ps)),fun _=>⟨fun j t r hj hr=>?_,[.lit (.bool true)]++ds,[],ps,⟨ps,[],?_,hnoV _,by simp,hfrozen,fun e=>by cases e⟩,fun p hp _=>by simpa using hp⟩⟩
 ·rw[hfres] at hj hr
  match j with
  |0 =>
   simp only[List.getElem?_toArray,List.getElem?_cons_zero,Option.some.injEq] at hj
   subst hj
   have:r = .bool true:=by simpa[Value.resultList] using hr.symm
   subst this
   simp[Value.okWide,hb,Cell.okWide,Cell.ok]
  |j+1=>simp at hj
 ·have:=trodAll_append (hargs (fun _=>true) (fun _ _=>rfl)) (hbool 0 (fun _=>true) true)
  simpa using this
end
def zdQ(W:World):RO:=fun a v=>W.cell? a=some v
set_option maxRecDepth 100000 in
/-- A law's row, from a contract of its function. -/
theorem zhN{os:Os}(started:os.Started){H:Type}{enc:TypeId×Value→H}{n:Nat}{fn:Func}{s:ChangeSpec}{tb:TypeId}(noInit:Tryz.checked.prog.inits.idxOf? n=none)(hfn:Tryz.checked.prog.funcs[n]?=some fn)
  (hvars:s.vars=[]) (hres:fn.resultTypes = #[tb]) (hbool:Tryz.checked.prog.underlying tb=some .bool) (hread:∀t∈fn.params.toList,Tryz.prog.readableRec t=true∧t<Tryz.prog.types.size)
  (hs:∀ds:List (DataW H),ds.length=fn.params.toList.length→s.fn H ds={ results:=[.lit (.bool true)],args:=ds })
  (witness:∃(w:World) (tape:Tape) (i:Input),w.os=os∧(w.forCall tape i).Shaped Tryz.checked.prog∧i.vars=[]∧Input.okWide Tryz.checked.prog (w.forCall tape i) .any w.heap.size n i ∧
   s.pre6 enc Tryz.checked.prog fn [] false (w.forCall tape i).memory i.args∧Assume.holds {} Tryz.checked.prog (lone (Frame.enter Tryz.checked.prog n i.args .normal) [] (w.forCall tape i)))
  (hlaw:∀(W:World) (base:Nat) (args:Array Value) (ds:List (DataW H)) (ps:List MemPlace),(∀(j:Nat) t v,fn.params[j]?=some t→args[j]?=some v→Value.okWide Tryz.prog W .any base t v) →
   DataW.TrodAll enc Tryz.prog W 0 (fun _=>true) true fn.params.toList args.toList ds ps→(DataW.weightsEach Tryz.prog fn.params.toList ds).all (· ≤ reachBytes)=true →
   zaa Tryz.prog n args.toList (zdQ W) fun _ v=>v = .bool true) :
  ReturnsInHanded {} Tryz.checked os n .any (s.pre6 enc Tryz.prog fn [] false) (s.post enc Tryz.prog fn false true false false):=by
 refine returnsInHanded_of_change_sized (C:=Tryz.checked) Tryz.own started noInit hfn witness ?_
 intro W base args ds gs before hval hW hcnd hwt _
 have hW0:=hW
 obtain⟨p,q,hA,hV,rfl,hfz,hnd⟩:=hW0
 rw[hvars] at hV
 obtain⟨rfl,rfl⟩:=trodVars_none hV
 have hvt:s.plain.varTypes Tryz.checked.prog=[]:=by simp[ChangeSpec.plain,DataSpec.varTypes,hvars]
 rw[hvt,List.append_nil,List.append_nil] at hwt
 have hlt:∀x∈p++[],x.block<W.heap.size:=fun x hx=>hW.lt x hx
 rw[List.append_nil] at hlt
 refine(hlaw W base args ds p hval hA hwt W (fun a v h=>h)).mono ?_
 rintro e W' ⟨v,R',rfl,-,-,hext,rfl⟩
 rw[List.append_nil] at hW
 exact⟨_,rfl,zok Tryz.laidOut hvars hres hbool hread (hs ds (zfA hA)) hW hA hext⟩
section
variable {H:Type} {enc:TypeId×Value→H} {W:World} {base fuel:Nat} {spare:Nat→Bool} {held:Bool}
end
end Go.Proofs.YtdgndfabdmecmaaGreat
namespace Go.Proofs.YtdgndfabdmecmaaGreat
open Go.ChangeShapes Go.WideShapes Go.ChangeAt Go.RowKit Go.Joins Go.Proofs.YtdgndfabdmecmaaGreat.Vc
set_option maxRecDepth 100000
section
variable {P:Program} {t:TypeId} {W:World} {r:Reach} {b0:Nat} {v:Value}
theorem zdD(ht:P.underlying t=some (.int .i64))(h:Cell.okWide P W r b0 t v):∃n,v = .int .i64 n:=by
 unfold Cell.okWide Cell.ok at h
 rw[ht] at h
 cases v<;>simp_all
theorem zmb(ht:P.underlying t=some .bool)(h:Cell.okWide P W r b0 t v):∃n,v = .bool n:=by
 unfold Cell.okWide Cell.ok at h
 rw[ht] at h
 cases v<;>simp_all
theorem zry(ht:P.underlying t=some .string)(h:Cell.okWide P W r b0 t v):∃n,v = .string n:=by
 unfold Cell.okWide Cell.ok at h
 rw[ht] at h
 cases v<;>simp_all
theorem zjL{e:TypeId}(ht:P.underlying t=some (.slice e))(h:Cell.okWide P W r b0 t v):∃a n c,v = .slice a n c:=by
 unfold Cell.okWide Cell.ok at h
 rw[ht] at h
 cases v<;>simp_all
theorem ok_u8(ht:P.underlying t=some (.int .u8))(h:Cell.okWide P W r b0 t v):∃n,v = .int .u8 n∧0≤n∧n≤255:=by
 unfold Cell.okWide Cell.ok at h
 rw[ht] at h
 have h1:IntKind.u8.min=0:=by decide
 have h2:IntKind.u8.max=255:=by decide
 cases v<;>simp_all
 rename_i g
 obtain⟨_,h⟩:=h
 unfold IntKind.has at h
 omega
theorem zgB{fs:Array Field}{n:Nat}{ts:List TypeId}(ht:P.underlying t=some (.struct fs))(hC:P.cellsOf t=n)(hT:P.cellTypes P.depth t=some ts)(h:Value.okWide P W r b0 t v):∃cs:List Value,v = .agg cs.toArray∧cs.length=n∧∀i u,cs[i]?=some u→∃t,ts[i%ts.length]?=some t∧Cell.okWide P W r b0 t u:=by
 unfold Value.okWide at h
 rw[ht] at h
 obtain⟨cs,rfl,hsz,ts',hts,_,hc⟩:=h
 rw[hT] at hts
 cases hts
 rw[hC] at hsz
 exact⟨cs.toList,rfl,hsz,fun i u hi=>hc i u (by simpa using hi)⟩
theorem zmc{e:TypeId}(ht:P.underlying t=some (.slice e))(h:Value.okWide P W r b0 t v):Cell.okWide P W r b0 t v:=by
 unfold Value.okWide at h
 rw[ht] at h
 exact h
theorem zku{H:Type}{enc:TypeId×Value→H}{base fuel:Nat}{spare:Nat→Bool}{held:Bool}{cs:List Value}{x:DataW H×List MemPlace}(ht:P.underlying t=some .bool)(h:DataW.trod enc P W base spare held fuel t cs=some x):∃b,cs=[.bool b]:=by
 cases fuel with
 |zero=>simp[DataW.trod] at h
 |succ n =>
  unfold DataW.trod at h
  rw[ht] at h
  split at h<;>simp_all
theorem ed_in{v:Value}(hv:Value.okWide Tryz.prog W r b0 52 v):∃e:Ed,v=e.val:=by
 obtain⟨cs,rfl,hsz,hc⟩:=zgB Tryz.underlying52 (n:=13) (ts:=[3,3,3,3,3,4,3,3,3,3,3,31,9]) (by kernel_rfl) (by kernel_rfl) hv
 match cs,hsz with
 |[c0,c1,c2,c3,c4,c5,c6,c7,c8,c9,c10,c11,c12],_ =>
  obtain⟨u,hu,k0⟩:=hc 0 c0 rfl
  cases hu
  obtain⟨u,hu,k1⟩:=hc 1 c1 rfl
  cases hu
  obtain⟨u,hu,k2⟩:=hc 2 c2 rfl
  cases hu
  obtain⟨u,hu,k3⟩:=hc 3 c3 rfl
  cases hu
  obtain⟨u,hu,k4⟩:=hc 4 c4 rfl
  cases hu
  obtain⟨u,hu,k5⟩:=hc 5 c5 rfl
  cases hu
  obtain⟨u,hu,k6⟩:=hc 6 c6 rfl
  cases hu
  obtain⟨u,hu,k7⟩:=hc 7 c7 rfl
  cases hu
  obtain⟨u,hu,k8⟩:=hc 8 c8 rfl
  cases hu
  obtain⟨u,hu,k9⟩:=hc 9 c9 rfl
  cases hu
  obtain⟨u,hu,k10⟩:=hc 10 c10 rfl
  cases hu
  obtain⟨u,hu,k11⟩:=hc 11 c11 rfl
  cases hu
  obtain⟨u,hu,k12⟩:=hc 12 c12 rfl
  cases hu
  obtain⟨n0,rfl⟩:=zdD Tryz.underlying3 k0
  obtain⟨n1,rfl⟩:=zdD Tryz.underlying3 k1
  obtain⟨n2,rfl⟩:=zdD Tryz.underlying3 k2
  obtain⟨n3,rfl⟩:=zdD Tryz.underlying3 k3
  obtain⟨n4,rfl⟩:=zdD Tryz.underlying3 k4
  obtain⟨n5,rfl⟩:=zmb Tryz.underlying4 k5
  obtain⟨n6,rfl⟩:=zdD Tryz.underlying3 k6
  obtain⟨n7,rfl⟩:=zdD Tryz.underlying3 k7
  obtain⟨n8,rfl⟩:=zdD Tryz.underlying3 k8
  obtain⟨n9,rfl⟩:=zdD Tryz.underlying3 k9
  obtain⟨n10,rfl⟩:=zdD Tryz.underlying3 k10
  obtain⟨a,n,c,rfl⟩:=zjL Tryz.underlying31 k11
  obtain⟨z,rfl⟩:=zry Tryz.underlying9 k12
  exact⟨⟨n0,n1,n2,n3,⟨n4,n5,n6,n7,n8⟩,n9,n10,a,n,c,z⟩,rfl⟩
end
section
variable {H:Type} {enc:TypeId×Value→H} {W:World} {base fuel:Nat} {spare:Nat→Bool} {held:Bool}
theorem zmd{cs:List Value}{x:DataW H×List MemPlace}(h:DataW.trod enc Tryz.prog W base spare held fuel 52 cs=some x):∃e:Ed,cs=e.cells:=by
 obtain⟨xs,n,_,_,hl,hlen,hf⟩:=DataW.trod_struct Tryz.underlying52 h
 have hC:Tryz.prog.cellsOf 52=13:=by kernel_rfl
 have hC3:Tryz.prog.cellsOf 3=1:=by kernel_rfl
 have hC4:Tryz.prog.cellsOf 4=1:=by kernel_rfl
 have hC9:Tryz.prog.cellsOf 9=1:=by kernel_rfl
 have hCr:Tryz.prog.cellsOf 31=1:=by kernel_rfl
 have hCm:Tryz.prog.cellsOf 50=5:=by kernel_rfl
 rw[hC] at hl
 match xs,hlen,cs,hl with
 |[y0,y1,y2,y3,y4,y5,y6,y7,y8],_,[c0,c1,c2,c3,c4,c5,c6,c7,c8,c9,c10,c11,c12],_ =>
  have h0:DataW.trod enc Tryz.prog W base spare held n 3 (([c0,c1,c2,c3,c4,c5,c6,c7,c8,c9,c10,c11,c12].drop 0).take (Tryz.prog.cellsOf 3))=[y0,y1,y2,y3,y4,y5,y6,y7,y8][0]?:=hf 0 _ rfl
  have h1:DataW.trod enc Tryz.prog W base spare held n 3 (([c0,c1,c2,c3,c4,c5,c6,c7,c8,c9,c10,c11,c12].drop 1).take (Tryz.prog.cellsOf 3))=[y0,y1,y2,y3,y4,y5,y6,y7,y8][1]?:=hf 1 _ rfl
  have h2:DataW.trod enc Tryz.prog W base spare held n 3 (([c0,c1,c2,c3,c4,c5,c6,c7,c8,c9,c10,c11,c12].drop 2).take (Tryz.prog.cellsOf 3))=[y0,y1,y2,y3,y4,y5,y6,y7,y8][2]?:=hf 2 _ rfl
  have h3:DataW.trod enc Tryz.prog W base spare held n 3 (([c0,c1,c2,c3,c4,c5,c6,c7,c8,c9,c10,c11,c12].drop 3).take (Tryz.prog.cellsOf 3))=[y0,y1,y2,y3,y4,y5,y6,y7,y8][3]?:=hf 3 _ rfl
  have h4:DataW.trod enc Tryz.prog W base spare held n 50 (([c0,c1,c2,c3,c4,c5,c6,c7,c8,c9,c10,c11,c12].drop 4).take (Tryz.prog.cellsOf 50))=[y0,y1,y2,y3,y4,y5,y6,y7,y8][4]?:=hf 4 _ rfl
  have h5:DataW.trod enc Tryz.prog W base spare held n 3 (([c0,c1,c2,c3,c4,c5,c6,c7,c8,c9,c10,c11,c12].drop 9).take (Tryz.prog.cellsOf 3))=[y0,y1,y2,y3,y4,y5,y6,y7,y8][5]?:=hf 5 _ rfl
  have h6:DataW.trod enc Tryz.prog W base spare held n 3 (([c0,c1,c2,c3,c4,c5,c6,c7,c8,c9,c10,c11,c12].drop 10).take (Tryz.prog.cellsOf 3))=[y0,y1,y2,y3,y4,y5,y6,y7,y8][6]?:=hf 6 _ rfl
  have h7:DataW.trod enc Tryz.prog W base spare held n 31 (([c0,c1,c2,c3,c4,c5,c6,c7,c8,c9,c10,c11,c12].drop 11).take (Tryz.prog.cellsOf 31))=[y0,y1,y2,y3,y4,y5,y6,y7,y8][7]?:=hf 7 _ rfl
  have h8:DataW.trod enc Tryz.prog W base spare held n 9 (([c0,c1,c2,c3,c4,c5,c6,c7,c8,c9,c10,c11,c12].drop 12).take (Tryz.prog.cellsOf 9))=[y0,y1,y2,y3,y4,y5,y6,y7,y8][8]?:=hf 8 _ rfl
  simp only[hC3,hC9,hCr,hCm,List.drop_zero,List.drop_succ_cons,List.take_succ_cons,List.take_zero,List.getElem?_cons_zero,List.getElem?_cons_succ] at h0 h1 h2 h3 h4 h5 h6 h7 h8
  obtain⟨z0,e0,-,-⟩:=DataW.trod_int Tryz.underlying3 h0
  obtain⟨z1,e1,-,-⟩:=DataW.trod_int Tryz.underlying3 h1
  obtain⟨z2,e2,-,-⟩:=DataW.trod_int Tryz.underlying3 h2
  obtain⟨z3,e3,-,-⟩:=DataW.trod_int Tryz.underlying3 h3
  obtain⟨z5,e5,-,-⟩:=DataW.trod_int Tryz.underlying3 h5
  obtain⟨z6,e6,-,-⟩:=DataW.trod_int Tryz.underlying3 h6
  obtain⟨z8,e8,-,-⟩:=DataW.trod_string Tryz.underlying9 h8
  obtain⟨ms,n',_,_,_,hlen',hf'⟩:=DataW.trod_struct Tryz.underlying50 h4
  obtain⟨a,l,c,e7⟩:∃a l c,[c11]=[Value.slice a l c]:=by
   rcases DataW.trod_slice Tryz.underlying31 h7 with⟨e,_⟩|⟨a,l,c,_,_,_,_,e,_⟩
   ·exact⟨_,_,_,e⟩
   ·exact⟨_,_,_,e⟩
  match ms,hlen' with
  |[y0',y1',y2',y3',y4'],_ =>
   have k0:DataW.trod enc Tryz.prog W base spare held n' 3 (([c4,c5,c6,c7,c8].drop 0).take (Tryz.prog.cellsOf 3))=[y0',y1',y2',y3',y4'][0]?:=hf' 0 _ rfl
   have k1:DataW.trod enc Tryz.prog W base spare held n' 4 (([c4,c5,c6,c7,c8].drop 1).take (Tryz.prog.cellsOf 4))=[y0',y1',y2',y3',y4'][1]?:=hf' 1 _ rfl
   have k2:DataW.trod enc Tryz.prog W base spare held n' 3 (([c4,c5,c6,c7,c8].drop 2).take (Tryz.prog.cellsOf 3))=[y0',y1',y2',y3',y4'][2]?:=hf' 2 _ rfl
   have k3:DataW.trod enc Tryz.prog W base spare held n' 3 (([c4,c5,c6,c7,c8].drop 3).take (Tryz.prog.cellsOf 3))=[y0',y1',y2',y3',y4'][3]?:=hf' 3 _ rfl
   have k4:DataW.trod enc Tryz.prog W base spare held n' 3 (([c4,c5,c6,c7,c8].drop 4).take (Tryz.prog.cellsOf 3))=[y0',y1',y2',y3',y4'][4]?:=hf' 4 _ rfl
   simp only[hC3,hC4,List.drop_zero,List.drop_succ_cons,List.take_succ_cons,List.take_zero,List.getElem?_cons_zero,List.getElem?_cons_succ] at k0 k1 k2 k3 k4
   obtain⟨w0,g0,-,-⟩:=DataW.trod_int Tryz.underlying3 k0
   obtain⟨w2,g2,-,-⟩:=DataW.trod_int Tryz.underlying3 k2
   obtain⟨w3,g3,-,-⟩:=DataW.trod_int Tryz.underlying3 k3
   obtain⟨w4,g4,-,-⟩:=DataW.trod_int Tryz.underlying3 k4
   obtain⟨w1,g1⟩:=zku Tryz.underlying4 k1
   simp only[List.cons.injEq,and_true] at e0 e1 e2 e3 e5 e6 e7 e8 g0 g1 g2 g3 g4
   subst e0 e1 e2 e3 e5 e6 e7 e8 g0 g1 g2 g3 g4
   exact⟨⟨z0,z1,z2,z3,⟨w0,w1,w2,w3,w4⟩,z5,z6,a,l,c,z8⟩,rfl⟩
theorem zfB{ts:List TypeId}{ds:List (DataW H)}(h:(DataW.weightsEach Tryz.prog ts ds).all (· ≤ reachBytes)=true){j:Nat}{t:TypeId}{d:DataW H}(ht:ts[j]?=some t)(hd:ds[j]?=some d):∀n∈d.weights Tryz.prog t,n≤reachBytes:=fun n hn=>by
 have:=List.all_eq_true.1 h n (DataW.weights_mem_each ht hd n hn)
 simpa using this
end
theorem zrz{n:Int}(h:(Lit.int .u8 n).wf=true):0≤n∧n≤255:=by
 have h1:IntKind.u8.min=0:=by decide
 have h2:IntKind.u8.max=255:=by decide
 simp only[Lit.wf,Bool.and_eq_true,decide_eq_true_eq] at h
 rw[h1,h2] at h
 omega
section
variable {H:Type} {enc:TypeId×Value→H} {W:World} {base fuel:Nat} {spare:Nat→Bool} {held:Bool}
theorem zjM{cs:List Value}{x:DataW H×List MemPlace}(h:DataW.trod enc Tryz.prog W base spare held fuel 23 cs=some x):∃v l,cs=[v]∧U8s (zdQ W) v l∧∀n∈l,0≤n∧n≤255:=by
 rcases open_ints Tryz.underlying23 Tryz.underlying5 (by kernel_rfl) h with⟨rfl,rfl⟩|⟨a,len,cap,zs,rfl,-,hl,hm,hz,rfl,hcell,hwf⟩
 ·exact⟨_,[],rfl,⟨none,0,rfl,Nat.le_refl _,by simp⟩,by simp⟩
 ·have hlen:len≤zs.length:=by rw[hz];split<;>omega
  refine⟨_,zs.take len,rfl,⟨some a,cap,by simp[List.length_take,Nat.min_eq_left hlen],by simp[List.length_take];omega,fun i hi=>⟨a,rfl,fun j u hj=>?_⟩⟩,fun m hmem=>zrz (hwf m (List.mem_of_mem_take hmem))⟩
  have hil:i<len:=by simp[List.length_take] at hi;omega
  have hiz:i<zs.length:=by omega
  have hc:=hcell i hiz
  rw[List.getD_eq_getElem?_getD,List.getElem?_eq_getElem hiz,Option.getD_some] at hc
  match j,hj with
  |0,hj =>
   simp only[List.getElem?_cons_zero,Option.some.injEq] at hj
   subst hj
   rw[Nat.mul_one,List.getElem_take]
   exact hc
theorem zpx{v:Value}{d:DataW H}{p:List MemPlace}{r:Reach}{b0:Nat}(hv:Value.okWide Tryz.prog W r b0 27 v)(h:DataW.Trod enc Tryz.prog W base spare held 27 v d p) :
  ∃(w:Rw) (g o:Value),v = .agg (w.cells g o).toArray∧RwOK w∧U8s (zdQ W) g w.gaps∧U8s (zdQ W) o w.offs:=by
 obtain⟨cs,rfl,hsz,hc⟩:=zgB Tryz.underlying27 (n:=14) (ts:=[5,23,23,5,5,5,5,5,5,5,5,5,5,4]) (by kernel_rfl) (by kernel_rfl) hv
 obtain⟨fuel,hf⟩:=h
 have hCb:Tryz.prog.cellsOf 5=1:=by kernel_rfl
 have hCs:Tryz.prog.cellsOf 23=1:=by kernel_rfl
 match cs,hsz with
 |[c0,c1,c2,c3,c4,c5,c6,c7,c8,c9,c10,c11,c12,c13],_ =>
  obtain⟨xs,n,_,_,hl,hlen,hg⟩:=DataW.trod_struct Tryz.underlying27 hf
  match xs,hlen with
  |[y0,y1,y2,y3,y4,y5,y6],_ =>
  have h1:DataW.trod enc Tryz.prog W base spare held n 23 (([c0,c1,c2,c3,c4,c5,c6,c7,c8,c9,c10,c11,c12,c13].drop 1).take (Tryz.prog.cellsOf 23))=[y0,y1,y2,y3,y4,y5,y6][1]?:=hg 1 _ rfl
  have h2:DataW.trod enc Tryz.prog W base spare held n 23 (([c0,c1,c2,c3,c4,c5,c6,c7,c8,c9,c10,c11,c12,c13].drop 2).take (Tryz.prog.cellsOf 23))=[y0,y1,y2,y3,y4,y5,y6][2]?:=hg 2 _ rfl
  simp only[hCs,List.drop_zero,List.drop_succ_cons,List.take_succ_cons,List.take_zero,List.getElem?_cons_zero,List.getElem?_cons_succ] at h1 h2
  obtain⟨g,gl,e1,hgu,hgb⟩:=zjM h1
  obtain⟨o,ol,e2,hou,hob⟩:=zjM h2
  simp only[List.cons.injEq,and_true] at e1 e2
  subst e1 e2
  obtain⟨u,hu,k0⟩:=hc 0 c0 rfl
  cases hu
  obtain⟨u,hu,k3⟩:=hc 3 c3 rfl
  cases hu
  obtain⟨u,hu,k4⟩:=hc 4 c4 rfl
  cases hu
  obtain⟨u,hu,k5⟩:=hc 5 c5 rfl
  cases hu
  obtain⟨u,hu,k6⟩:=hc 6 c6 rfl
  cases hu
  obtain⟨u,hu,k7⟩:=hc 7 c7 rfl
  cases hu
  obtain⟨u,hu,k8⟩:=hc 8 c8 rfl
  cases hu
  obtain⟨u,hu,k9⟩:=hc 9 c9 rfl
  cases hu
  obtain⟨u,hu,k10⟩:=hc 10 c10 rfl
  cases hu
  obtain⟨u,hu,k11⟩:=hc 11 c11 rfl
  cases hu
  obtain⟨u,hu,k12⟩:=hc 12 c12 rfl
  cases hu
  obtain⟨u,hu,k13⟩:=hc 13 c13 rfl
  cases hu
  obtain⟨n0,rfl,b0⟩:=ok_u8 Tryz.underlying5 k0
  obtain⟨n3,rfl,b3⟩:=ok_u8 Tryz.underlying5 k3
  obtain⟨n4,rfl,b4⟩:=ok_u8 Tryz.underlying5 k4
  obtain⟨n5,rfl,b5⟩:=ok_u8 Tryz.underlying5 k5
  obtain⟨n6,rfl,b6⟩:=ok_u8 Tryz.underlying5 k6
  obtain⟨n7,rfl,b7⟩:=ok_u8 Tryz.underlying5 k7
  obtain⟨n8,rfl,b8⟩:=ok_u8 Tryz.underlying5 k8
  obtain⟨n9,rfl,b9⟩:=ok_u8 Tryz.underlying5 k9
  obtain⟨n10,rfl,b10⟩:=ok_u8 Tryz.underlying5 k10
  obtain⟨n11,rfl,b11⟩:=ok_u8 Tryz.underlying5 k11
  obtain⟨n12,rfl,b12⟩:=ok_u8 Tryz.underlying5 k12
  obtain⟨n13,rfl⟩:=zmb Tryz.underlying4 k13
  refine⟨⟨n0,gl,ol,n3,n4,n5,n6,n7,n8,n9,n10,n11,n12,n13⟩,c1,c2,rfl,⟨b0,b3,fun x hx=>?_,b12,hgb,hob⟩,hgu,hou⟩
  simp only[List.mem_cons,List.not_mem_nil,or_false] at hx
  rcases hx with rfl|rfl|rfl|rfl|rfl|rfl|rfl|rfl<;>assumption
end
theorem u8_wf{n:Int}(h:(Lit.int .u8 n).wf=true):0≤n∧n≤255:=by
 have h1:IntKind.u8.min=0:=by decide
 have h2:IntKind.u8.max=255:=by decide
 simp only[Lit.wf,Bool.and_eq_true,decide_eq_true_eq] at h
 rw[h1,h2] at h
 omega
section
variable {P:Program} {t:TypeId} {W:World} {r:Reach} {b0:Nat} {v:Value}
end
section
variable {H:Type} {enc:TypeId×Value→H} {W:World} {base fuel:Nat} {spare:Nat→Bool} {held:Bool}
theorem zqp{cs:List Value}{x:DataW H×List MemPlace}(h:DataW.trod enc Tryz.prog W base spare held fuel 120 cs=some x):∃o:Opn,cs=o.cells∧o.ok:=by
 obtain⟨xs,n,_,_,hl,hlen,hf⟩:=DataW.trod_struct Tryz.underlying120 h
 have hC:Tryz.prog.cellsOf 120=16:=by kernel_rfl
 have hC8:Tryz.prog.cellsOf 5=1:=by kernel_rfl
 have hCe:Tryz.prog.cellsOf 52=13:=by kernel_rfl
 rw[hC] at hl
 match xs,hlen,cs,hl with
 |[y0,y1,y2,y3],_,[b0,b1,b2,c0,c1,c2,c3,c4,c5,c6,c7,c8,c9,c10,c11,c12],_ =>
  have h0:DataW.trod enc Tryz.prog W base spare held n 5 (([b0,b1,b2,c0,c1,c2,c3,c4,c5,c6,c7,c8,c9,c10,c11,c12].drop 0).take (Tryz.prog.cellsOf 5))=[y0,y1,y2,y3][0]?:=hf 0 _ rfl
  have h1:DataW.trod enc Tryz.prog W base spare held n 5 (([b0,b1,b2,c0,c1,c2,c3,c4,c5,c6,c7,c8,c9,c10,c11,c12].drop 1).take (Tryz.prog.cellsOf 5))=[y0,y1,y2,y3][1]?:=hf 1 _ rfl
  have h2:DataW.trod enc Tryz.prog W base spare held n 5 (([b0,b1,b2,c0,c1,c2,c3,c4,c5,c6,c7,c8,c9,c10,c11,c12].drop 2).take (Tryz.prog.cellsOf 5))=[y0,y1,y2,y3][2]?:=hf 2 _ rfl
  have h3:DataW.trod enc Tryz.prog W base spare held n 52 (([b0,b1,b2,c0,c1,c2,c3,c4,c5,c6,c7,c8,c9,c10,c11,c12].drop 3).take (Tryz.prog.cellsOf 52))=[y0,y1,y2,y3][3]?:=hf 3 _ rfl
  simp only[hC8,hCe,List.drop_zero,List.drop_succ_cons,List.take_succ_cons,List.take_zero,List.getElem?_cons_zero,List.getElem?_cons_succ] at h0 h1 h2 h3
  obtain⟨z0,e0,-,w0⟩:=DataW.trod_int Tryz.underlying5 h0
  obtain⟨z1,e1,-,w1⟩:=DataW.trod_int Tryz.underlying5 h1
  obtain⟨z2,e2,-,w2⟩:=DataW.trod_int Tryz.underlying5 h2
  obtain⟨e,he⟩:=zmd h3
  simp only[List.cons.injEq,and_true] at e0 e1 e2
  subst e0 e1 e2
  refine⟨⟨z0,z1,z2,e⟩,?_,u8_wf w0,u8_wf w1,u8_wf w2⟩
  show _::_::_::_=_
  rw[he]
  rfl
theorem zeL{v:Value}{d:DataW H}{p:List MemPlace}{r:Reach}{b0:Nat}(hv:Value.okWide Tryz.prog W r b0 66 v)(h:DataW.Trod enc Tryz.prog W base spare held 66 v d p)(hw:∀n∈d.weights Tryz.prog 66,n≤reachBytes) :
  ∃os,OpC (zdQ W) v os:=by
 obtain⟨fuel,hf⟩:=h
 have hC:Tryz.prog.cellsOf 120=16:=by kernel_rfl
 have hB:Tryz.prog.bytesOf 120=136:=by kernel_rfl
 obtain⟨a0,l0,c0,rfl⟩:=zjL Tryz.underlying66 (zmc Tryz.underlying66 hv)
 rcases Go.Deep.open_slice Tryz.underlying66 hf with⟨e,_⟩|⟨a,len,cap,m,n,D,Pl,e,-,hl,hm,hmm,hx,hi⟩
 ·simp only[Value.cells,List.cons.injEq,and_true,List.toList_toArray] at e
  rw[e]
  exact⟨[],⟨none,0,rfl,Nat.le_refl _,by simp⟩,by simp,by simp⟩
 ·simp only[Value.cells,List.cons.injEq,and_true,List.toList_toArray] at e
  rw[e]
  obtain⟨rfl,_⟩:=Prod.mk.inj hx
  have hlm:len≤m:=by rw[hmm];split<;>omega
  rw[hC] at hi
  have each:∀i,i<m→∃e:Opn,(∀j v,(e.cells)[j]?=some v→W.cell? ((a.add (i*16)).add j)=some v)∧e.ok:=by
   intro i him
   obtain⟨cs',hc,ht⟩:=hi i him
   obtain⟨_,hcl,hat⟩:=World.cells?_some hc
   obtain⟨e,rfl,hok⟩:=zqp ht
   refine⟨e,fun j v hj=>?_,hok⟩
   have hj16:j<16:=(List.getElem?_eq_some_iff.1 hj).1
   rw[hat j hj16]
   exact hj
  have hlen:len*136≤reachBytes:=by
   have:=hw ((((List.range len).map D).length+((List.range (m-len)).map fun j=>D (len+j)).length)*136) (by
    simp only[DataW.weights,Tryz.underlying66,hB]
    exact List.mem_cons_self)
   simp only[List.length_map,List.length_range] at this
   omega
  unfold reachBytes at hlen
  let f:Nat→Opn:=fun i=>if h:i<m then(each i h).choose else⟨0,0,0,⟨0,0,0,0,⟨0,false,0,0,0⟩,0,0,none,0,0,⟨#[]⟩⟩⟩
  have hf:∀i,i<len→(∀j v,((f i).cells)[j]?=some v→W.cell? ((a.add (i*16)).add j)=some v)∧(f i).ok:=by
   intro i hi'
   have him:i<m:=by omega
   simp only[f,him,dif_pos]
   exact(each i him).choose_spec
  refine⟨(List.range len).map f,⟨some a,cap,by simp,by simpa using hl,fun i us hi'=>?_⟩,fun o ho=>?_,by simp;omega⟩
  ·rw[List.getElem?_map,List.getElem?_map] at hi'
   obtain⟨r,hr,rfl⟩:=Option.map_eq_some_iff.1 hi'
   obtain⟨i',hi'',rfl⟩:=Option.map_eq_some_iff.1 hr
   have hii:=List.getElem?_eq_some_iff.1 hi''
   simp only[List.length_range,List.getElem_range] at hii
   obtain⟨hlt,rfl⟩:=hii
   exact⟨rfl,a,rfl,fun j u hj=>(hf i hlt).1 j u hj⟩
  ·obtain⟨i,hi',rfl⟩:=List.mem_map.1 ho
   exact(hf i (List.mem_range.1 hi')).2
end
end Go.Proofs.YtdgndfabdmecmaaGreat
