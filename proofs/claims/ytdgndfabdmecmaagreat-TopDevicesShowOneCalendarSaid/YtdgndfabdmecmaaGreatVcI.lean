/- Plain lemmas of our own, no statement of the seat: the rewriting set of the calculus; how values read. -/
import Derived.Test.YtdgndfabdmecmaaGreatVcH
namespace Go.Proofs.YtdgndfabdmecmaaGreat.Vc
set_option linter.unusedSectionVars false
variable [Drew]
set_option linter.unusedSimpArgs false
set_option linter.unusedVariables false
open Go.RowKit
inductive Tok.{u} {α:Sort u} (a:α):Type where
 |mk
section
variable (P:PG)
def CodeT(c:VCode)(s:St)(kn:St→Prop)(ke:Nat→St→Prop)(kr:St→Prop)(_:Tok kn)(_:Tok ke)(_:Tok kr):Prop:=zbs P c s kn ke kr
def TreeT(t:VT)(s:St)(K:St→Prop)(_:Tok K):Prop:=vcVT P t s K
def zdi(l:List VStep)(s:St)(K:St→Prop)(_:Tok K):Prop:=zat P l s K
def OpT(o:VOp)(s:St)(k:SV→St→Prop)(_:Tok k):Prop:=vcOp P o s k
def VLoop(b:VCode)(s:St)(kn:St→Prop)(ke:Nat→St→Prop)(kr:St→Prop)(_:Tok kn)(_:Tok ke)(_:Tok kr)(_:Tok b):Prop:=zbs P (.loop b) s kn ke kr
end
def zfS(P:Program)(f:FuncId)(args:List Value)(R:RO)(k:RO→Value→Prop)(_:Tok k)(H:Prop)(_:Tok H):Prop:=VCall P f args R k∨H
def CallT(P:PG)(b:Bool)(xs:List SV)(m:Bool)(f:FuncId)(args:List Operand)(s:St)(k:SV→St→Prop)(_:Tok k):Prop :=
 if b=true then(VCall P.P f (zcf xs) s.R fun R' v=>k (.val v) { s with R:=R' })∨HandM m P.P f xs s k∨Lend P.P f xs s k∨LendA P.P f xs s k
   else(zfF s args fun vs s'=>VCall P.P f vs s'.R fun R' v=>k (.val v) { s' with R:=R' })∨Lend P.P f xs s k∨HandM m P.P f xs s k∨LendA P.P f xs s k
def zmo(m:Bool)(P:Program)(f:FuncId)(xs:List SV)(s:St)(k:SV→St→Prop)(_:Tok k):Prop:=Lend P f xs s k∨HandM m P f xs s k
def zmp(m:Bool)(P:PG)(x:SV)(xs:List SV)(s:St)(k:SV→St→Prop)(_:Tok k):Prop:=match x with
  |.val (.func (.func f) first caps)=>zaB P.P f=true∧if zce xs=true then VCall P.P f (first.toList++zcf xs++caps.toList) s.R fun R' v=>k (.val v) { s with R:=R' }
    else Lend P.P f (first.toList.map .val++xs++caps.toList.map .val) s k
  |.fn f cs=>zaB P.P f=true∧(Lend P.P f (xs++cs.map capSV) s k∨HandM m P.P f (xs++cs.map capSV) s k)
  |_=>False
def zmq(P:Program)(b:Bool)(f:FuncId)(first:List Value)(xs:List SV)(caps:List Value)(s:St)(k:SV→St→Prop)(_:Tok k):Prop :=
 if b=true then VCall P f (first++zcf xs++caps) s.R fun R' v=>k (.val v) { s with R:=R' } else Lend P f (first.map .val++xs++caps.map .val) s k
def MkfnT(cs:Option (List Cap))(f:FuncId)(k:SV→Prop)(_:Tok k):Prop:=match cs with
 |some cs=>k (.fn f cs)
 |none=>False
def ziP(mx:Bool)(x y:SV)(k:Value→Prop)(_:Tok k):Prop:=match x,y with
 |.val (.int i a),.val (.int _ b)=>k (.int i (if mx=true then max a b else min a b))
 |_,_=>False
def zr0(mx:Bool)(x y z:SV)(k:Value→Prop)(_:Tok k):Prop:=match x,y,z with
 |.val (.int i a),.val (.int _ b),.val (.int _ c)=>k (.int i (if mx=true then max (max a b) c else min (min a b) c))
 |_,_,_=>False
def zgJ(neg:Bool)(x:SV)(k:Value→Prop)(_:Tok k):Prop:=match x with
 |.val (.slice a _ _)=>k (.bool (if neg then !a.isNone else a.isNone))
 |.sl _ _=>k (.bool neg)
 |.sw _ _ _ _=>k (.bool neg)
 |_=>False
def MgetB(b:List Blk)(j:Nat)(ks:Option (List Nat))(z:Value)(ok:Bool)(a:Value)(k:Value→Prop)(_:Tok k):Prop :=
 mEq ks a a=some true∧∃es clock r,b[j]?=some (.mp es clock)∧mfind ks a es 0=some r∧k (mres z ok r)
def MgetT(ks:Option (List Nat))(z:Value)(ok:Bool)(x y:SV)(s:St)(k:Value→Prop)(_:Tok k):Prop:=match x,y with
 |.mp j,.val a=>MgetB s.blk j ks z ok a k .mk
 |_,_=>False
def MputB(e:Nat→SV)(b:List Blk)(R:RO)(j:Nat)(ks:Option (List Nat))(a u:Value)(k:SV→St→Prop)(_:Tok k):Prop :=
 ∃es clock r,b[j]?=some (.mp es clock)∧mfind ks a es 0=some r∧k (.val undef) ⟨e,b.set j (mset a u es clock r),R⟩
def MputT(ks:Option (List Nat))(x y v:SV)(s:St)(k:SV→St→Prop)(_:Tok k):Prop:=match x,y with
 |.mp j,.val a=>mEq ks a a=some true∧leaf v s fun u s'=>MputB s'.env s'.blk s'.R j ks a u k .mk
 |_,_=>False
def MdelB(e:Nat→SV)(b:List Blk)(R:RO)(j:Nat)(ks:Option (List Nat))(a:Value)(k:SV→St→Prop)(_:Tok k):Prop :=
 ∃es clock r,b[j]?=some (.mp es clock)∧mfind ks a es 0=some r∧k (.val (.tuple #[])) ⟨e,b.set j (mdrop es clock r),R⟩
def MdelT(ks:Option (List Nat))(x y:SV)(s:St)(k:SV→St→Prop)(_:Tok k):Prop:=match x,y with
 |.mp j,.val a=>mEq ks a a=some true∧MdelB s.env s.blk s.R j ks a k .mk
 |_,_=>False
def ziQ(ob:Option Blk)(m:Nat)(s:St)(k:SV→St→Prop)(_:Tok k):Prop:=match ob with
 |some (.mp _ clock)=>k (.loc s.blk.length 0) ⟨s.env,s.blk++[.it m clock [] clock],s.R⟩
 |_=>False
def zqr(x:SV)(s:St)(k:SV→St→Prop)(_:Tok k):Prop:=match x with
 |.mp m=>ziQ s.blk[m]? m s k .mk
 |_=>False
def zmr(om:Option Blk)(j m since:Nat)(seen:List Nat)(last:Nat)(s:St)(k:SV→St→Prop)(_:Tok k):Prop:=match om with
 |some (.mp es clock)=>(∀e∈es,e.born<since)∧since≤last∧((∀e∈es,seen.contains e.born=true)→k (.val (.tuple #[.bool false])) s) ∧
   ∀e∈es,seen.contains e.born=false→k (.val (.tuple #[.bool true,e.key,e.val])) ⟨s.env,s.blk.set j (.it m since (seen++[e.born]) clock),s.R⟩
 |_=>False
def zms(ob:Option Blk)(j:Nat)(s:St)(k:SV→St→Prop)(_:Tok k):Prop:=match ob with
 |some (.it m since seen last)=>zmr s.blk[m]? j m since seen last s k .mk
 |_=>False
def zrE(x:SV)(s:St)(k:SV→St→Prop)(_:Tok k):Prop:=match x with
 |.loc j 0=>zms s.blk[j]? j s k .mk
 |_=>False
def zmt(om:Option Blk)(seen:List Nat)(last:Nat)(s:St)(k:SV→St→Prop)(_:Tok k):Prop:=match om with
 |some (.mp es clock)=>∃seen' e,seen=seen'++[MapEntry.born e]∧last=clock∧e∈es∧(es.map (·.born)).Nodup∧k (.val (.tuple #[e.key,e.val])) s
 |_=>False
def ziR(ob:Option Blk)(s:St)(k:SV→St→Prop)(_:Tok k):Prop:=match ob with
 |some (.it m _ seen last)=>zmt s.blk[m]? seen last s k .mk
 |_=>False
def zqs(x:SV)(s:St)(k:SV→St→Prop)(_:Tok k):Prop:=match x with
 |.loc j 0=>ziR s.blk[j]? s k .mk
 |_=>False
def zr1(sz:Nat)(v:Value)(lo:Option Operand)(hi mx:Operand)(s s':St)(k:SV→St→Prop)(_:Tok k):Prop:=slc3 s sz v lo hi mx fun u=>k (.val u) s'
def zr2(sz:Nat)(x:SV)(lo:Option Operand)(hi mx:Operand)(s:St)(k:SV→St→Prop)(_:Tok k):Prop:=match x with
  | .val (.slice a len cap) => ∃ l h m : Nat, bnd s lo 0 l ∧ bnd s (some hi) len h ∧ bnd s (some mx) cap m ∧ l ≤ h ∧ h ≤ m ∧ m ≤ cap ∧
        k (.val (.slice (if m=l then a else a.map (·.add (l*sz))) (h-l) (m-l))) s
  |.sl j n=>leaf (.sl j n) s fun v s'=>slc3 s sz v lo hi mx fun u=>k (.val u) s'
  |_=>False
def IfT(x:SV)(A B:Prop)(_:Tok A)(_:Tok B):Prop:=match x with
 |.val (.bool t)=>(t=true→A)∧(t=false→B)
 |_=>False
def GrdT(x:SV)(b:Bool)(A B C:Prop)(_:Tok A)(_:Tok B)(_:Tok C):Prop:=match x with
 |.val (.bool c)=>(c=b→A)∧(c = !b→B)
 |_=>C
def BinT(op:BinOp)(x y:SV)(k:Value→Prop)(_:Tok k):Prop:=match x,y with
 |.val u,.val v=>vcBin op u v k
 |_,_=>False
def UnT(op:UnOp)(x:SV)(k:Value→Prop)(_:Tok k):Prop:=match x with
 |.val u=>vcUn op u k
 |_=>False
def zmu(left:Bool)(x y:SV)(k:Value→Prop)(_:Tok k):Prop:=match x,y with
 |.val (.int i a),.val (.int _ b)=>0≤b∧∃n:Nat,n=min b.toNat i.bits∧if left=true then ∃r,W i (a*2 ^ n) r∧k (.int i r) else k (.int i (a.fdiv (2 ^ n)))
 |_,_=>False
def EqBT(neg:Bool)(x y:SV)(k:Value→Prop)(_:Tok k):Prop:=match x,y with
 |.val (.bool a),.val (.bool b)=>k (.bool (if neg then a != b else a==b))
 |_,_=>False
def EqST(neg:Bool)(kinds:List Nat)(x y:SV)(k:Value→Prop)(_:Tok k):Prop:=match x,y with
 |.val (.agg us),.val (.agg vs)=>match zad kinds us.toList vs.toList with
  |some t=>k (.bool (if neg then !t else t))
  |none=>False
 |_,_=>False
def EqOT(neg:Bool)(o:Option Bool)(k:Value→Prop)(_:Tok k):Prop:=match o with
 |some t=>k (.bool (if neg then !t else t))
 |none=>False
def NilT(x:SV)(k:SV→Prop)(_:Tok k):Prop:=match x with
 |.loc j o=>k (.loc j o)
 |.val (.pointer (some a))=>k (.val (.pointer (some a)))
 |_=>False
def ExtrT(x:SV)(i:Nat)(k:Value→Prop)(_:Tok k):Prop:=match x with
 |.val (.tuple vs)=>match vs[i]? with
  |some v=>k v
  |none=>False
 |_=>False
def OptT(o:Option Value)(k:Value→Prop)(_:Tok k):Prop:=match o with
 |some v=>k v
 |none=>False
def zmv(x:SV)(off:Nat)(k:SV→Prop)(_:Tok k):Prop:=match x with
 |.loc j o=>k (.loc j (o+off))
 |.val (.pointer (some a))=>k (.val (.pointer (some (a.add off))))
 |_=>False
def zmw(s:St)(x i:SV)(sz:Nat)(k:SV→Prop)(_:Tok k):Prop:=match x,i with
 |.val (.slice a len _),.val (.int _ n)=>0≤n∧n<len∧∃ad,a=some ad∧k (.val (.pointer (some (ad.add (n.toNat*sz)))))
 |.sl j len,.val (.int _ n)=>0≤n∧n<len∧k (.loc j (n.toNat*sz))
 |.sw j z e len,.val (.int _ n)=>0≤n∧n<len∧z=sz∧0<sz∧(∃T cs,s.blk[j]?=some (.row T sz cs)∧(e+len)*sz≤cs.length)∧k (.loc j ((e+n.toNat)*sz))
 |_,_=>False
def zmx(x i:SV)(len sz:Nat)(k:SV→Prop)(_:Tok k):Prop:=match x,i with
 |.loc j o,.val (.int _ n)=>0≤n∧n<len∧k (.loc j (o+n.toNat*sz))
 |.val (.pointer (some a)),.val (.int _ n)=>0≤n∧n<len∧k (.val (.pointer (some (a.add (n.toNat*sz)))))
 |_,_=>False
def zmy(b:Option Blk)(o:Nat)(k:SV→Prop)(_:Tok k):Prop:=match b with
 |some (.box cs)=>match cs[o]? with
  |some c=>k c
  |none=>False
 |some (.row _ _ cs)=>∃c,cs[o]?=some c∧k (.val c)
 |_=>False
def OptST(o:Option SV)(k:SV→Prop)(_:Tok k):Prop:=match o with
 |some v=>k v
 |none=>False
def LoadT(n:Option Nat)(x:SV)(s:St)(k:SV→St→Prop)(_:Tok k):Prop:=match n with
 |none=>match x with
  |.loc j o=>match s.blk[j]? with
   |some (.box cs)=>match cs[o]? with
    |some c=>k c s
    |none=>False
   |some (.row _ _ cs)=>∃c,cs[o]?=some c∧k (.val c) s
   |_=>False
  |.val (.pointer (some a))=>∃v,allR s.blk s.R a v∧k (.val v) s
  |_=>False
 |some n=>match x with
  |.loc j o=>zaW s j o n fun vs s'=>k (.val (.agg vs.toArray)) s'
  |.val (.pointer (some a))=>∃vs:List Value,vs.length=n∧(∀j v,vs[j]?=some v→allR s.blk s.R (a.add j) v)∧k (.val (.agg vs.toArray)) s
  |_=>False
def zeS(s:St)(j off n:Nat)(k:List Value→St→Prop)(_:Tok k):Prop:=zaW s j off n k
def CellT(b:Option Blk)(s:St)(j off n:Nat)(k:List Value→St→Prop)(_:Tok k):Prop:=match b with
 |some (.box cs)=>match cs[off]? with
  |some c=>leaf1 c s fun v s'=>zaW s' j (off+1) n fun vs s''=>k (v::vs) s''
  |none=>False
 |some (.row _ _ cs)=>∃v,cs[off]?=some v∧zaW s j (off+1) n fun vs s''=>k (v::vs) s''
 |_=>False
def LeafT(x:SV)(s:St)(k:Value→St→Prop)(_:Tok k):Prop:=leaf x s k
def zmz(x:SV)(s:St)(k:Value→St→Prop)(_:Tok k):Prop:=leaf1 x s k
def FrzLT(b0:Option Blk)(j off:Nat)(vs:List Value)(s:St)(k:Value→St→Prop)(_:Tok k):Prop:=match b0 with
 |some (.box _)=>∀(b:Nat) (R':RO),RO.le s.R R'→RowIn R' b vs→Fresh s.R b→k (.pointer (some ⟨b,off,none⟩)) (frzB s j b R')
 |_=>False
def zpC(b0:Option Blk)(j off:Nat)(s:St)(k:Value→St→Prop)(_:Tok k):Prop:=match b0 with
 |some (.box cs)=>zaW s j 0 cs.length fun vs s'=>FrzLT s'.blk[j]? j off vs s' k .mk
 |_=>False
def zmA(b:Option Blk)(j n:Nat)(s:St)(k:Value→St→Prop)(_:Tok k):Prop:=match b with
 |some (.row T sz cs)=>∀(b cap:Nat) (R':RO),RO.le s.R R'→RowIn R' b cs→cs.length≤cap*sz→Fresh s.R b→k (.slice (some ⟨b,0,none⟩) n cap) (frz s j b cap R' T sz cs)
 |_=>False
def zr3(b:Option Blk)(j z e n:Nat)(s:St)(k:Value→St→Prop)(_:Tok k):Prop:=match b with
 |some (.row T sz cs)=>∀(b cap:Nat) (R':RO),RO.le s.R R'→RowIn R' b cs→cs.length≤cap*sz→Fresh s.R b→k (.slice (some ⟨b,if cap=e then 0 else e*z,none⟩) n (cap-e)) (frz s j b cap R' T sz cs)
 |_=>False
def zr4(vs:Option (List Value))(f:FuncId)(s:St)(k:Value→St→Prop)(_:Tok k):Prop:=match vs with
 |some vs=>k (.func (.func f) #[] vs.toArray) s
 |none=>False
def zhb(s:St)(xs:List Operand)(k:List Value→St→Prop)(_:Tok k):Prop:=zfF s xs k
def FillT(s:St)(cs:List Value)(ps:List (Nat×Nat×Operand))(k:List Value→St→Prop)(_:Tok k):Prop:=fillV s cs ps k
def LenT(x:SV)(k:Value→Prop)(_:Tok k):Prop:=match x with
 |.val (.slice _ n _)=>k (.int .i64 n)
 |.sl _ n=>k (.int .i64 n)
 |.sw _ _ _ n=>k (.int .i64 n)
 |_=>False
def SlenT(x:SV)(k:Value→Prop)(_:Tok k):Prop:=match x with
 |.val (.string b)=>k (.int .i64 b.size)
 |_=>False
def ConvT(i:IntKind)(x:SV)(k:Value→Prop)(_:Tok k):Prop:=match x with
 |.val (.int _ n)=>∃r,W i n r∧k (.int i r)
 |_=>False
def zqt(n:Nat)(a:Addr)(v:SV)(s:St)(k:SV→St→Prop)(_:Tok k):Prop :=
  ∃ (j : Nat) (F : RO), s.blk[j]? = some (.own F) ∧ leaf v s fun u s' => u.cells.size = n ∧ 0 < n ∧ (∀ i, i < n → ∃ old, F (a.add i) old) ∧ (∀ c ∈ u.cells.toList, c.oneCell' = true) ∧
        s'.blk[j]?=some (.own F)∧k (.val undef) { s' with blk:=s'.blk.set j (.own (putF F a u.cells.toList)) }
def zpD(n:Nat)(x v:SV)(s:St)(k:SV→St→Prop)(_:Tok k):Prop:=match x with
 |.loc j o=>match s.blk[j]? with
  |some (.box cs)=>(cellsOf v).length=n∧o+n≤cs.length∧(∀c∈cellsOf v,match c with|.val u=>u.oneCell'=true|_=>True) ∧
    k (.val undef) { s with blk:=s.blk.set j (.box (zcF o cs (cellsOf v))) }
  |some (.row T sz cs)=>leaf v s fun u s'=>u.cells.size=n∧o+n≤cs.length∧(∀c∈u.cells.toList,c.oneCell'=true) ∧
    s'.blk[j]?=some (.row T sz cs)∧k (.val undef) { s' with blk:=s'.blk.set j (.row T sz (putAt o cs u.cells.toList)) }
  |_=>False
 |.val (.pointer (some a))=>zqt n a v s k .mk
 |_=>False
def zhc(b:Option Blk)(n j o:Nat)(v:SV)(s:St)(k:SV→St→Prop)(_:Tok k):Prop:=match b with
 |some (.box cs)=>(cellsOf v).length=n∧o+n≤cs.length∧(∀c∈cellsOf v,match c with|.val u=>u.oneCell'=true|_=>True) ∧
   k (.val undef) { s with blk:=s.blk.set j (.box (zcF o cs (cellsOf v))) }
 |some (.row T sz cs)=>leaf v s fun u s'=>u.cells.size=n∧o+n≤cs.length∧(∀c∈u.cells.toList,c.oneCell'=true) ∧
   s'.blk[j]?=some (.row T sz cs)∧k (.val undef) { s' with blk:=s'.blk.set j (.row T sz (putAt o cs u.cells.toList)) }
 |_=>False
def one':SV→Bool
 |.val u=>u.oneCell'
 |_=>true
def SrcT(s:St)(T sz:Nat)(x:SV)(k:Nat→List Value→Prop)(_:Tok k):Prop:=zcU s T sz x k
def AppT(T sz bytes:Nat)(x:SV)(m:Nat)(ys:List Value)(s:St)(k:SV→St→Prop)(_:Tok k):Prop:=match x with
 |.val (.slice none 0 0)=>(m=0→k (.val (.slice none 0 0)) s) ∧
   (m≠0→m*bytes≤1099511627776∧k (.sl s.blk.length m) { s with blk:=s.blk++[.row T sz ys] })
 |.val (.slice (some a) 0 0)=>(m=0→k (.val (.slice (some a) 0 0)) s) ∧
   (m≠0→m*bytes≤1099511627776∧k (.sl s.blk.length m) { s with blk:=s.blk++[.row T sz ys] })
 |.val (.slice (some a) n cap)=>∃j cs,s.blk[j]?=some (.shr a.block cap T sz cs)∧a.off=0∧a.spot=none∧cs.length=n*sz∧(n+m)*bytes≤1099511627776 ∧
   ∀(b' cap':Nat) (R':RO),RO.le s.R R'→RowIn R' b' (cs++ys)→(cs++ys).length≤cap'*sz→(b'=a.block∨Fresh s.R b')→k (.val (.slice (some ⟨b',0,none⟩) (n+m) cap')) { s with blk:=s.blk.set j (.shr b' cap' T sz (cs++ys)),R:=R' }
 |.sl j n=>∃cs0 cs,s.blk[j]?=some (.row T sz cs)∧cs0 <+: cs∧cs0.length=n*sz∧(n+m)*bytes≤1099511627776 ∧
   k (.sl s.blk.length (n+m)) { s with blk:=s.blk.set j .dead++[.row T sz (cs0++ys)] }
 |_=>False
def MkT(T sz bytes:Nat)(zero:List Value)(l c:SV)(s:St)(k:SV→St→Prop)(_:Tok k):Prop:=match l,c with
 |.val (.int _ n),.val (.int _ m)=>0≤n∧n≤m∧m*bytes≤1099511627776 ∧
   k (.sl s.blk.length n.toNat) { s with blk:=s.blk++[.row T sz (zaw zero n.toNat)] }
 |_,_=>False
def zmB(sz:Nat)(x:SV)(lo hi:Option Operand)(s:St)(k:SV→St→Prop)(_:Tok k):Prop:=match x with
 |.val (.slice a len cap)=>∃l h:Nat,bnd s lo 0 l∧bnd s hi len h∧l≤h∧h≤cap ∧
   k (.val (.slice (if cap=l then a else a.map (·.add (l*sz))) (h-l) (cap-l))) s
 |.sl j len=>∃l h:Nat,bnd s lo 0 l∧bnd s hi len h∧l≤h∧0<sz∧(∃T cs,s.blk[j]?=some (.row T sz cs)∧h*sz≤cs.length)∧k (if l=0 then .sl j h else .sw j sz l (h-l)) s
 |_=>False
def zpE(off:Nat)(n:Option Nat)(x:SV)(k:Value→Prop)(_:Tok k):Prop:=match x with
 |.val (.agg cs)=>zd7 cs.toList off n k
 |_=>False
def zmC(len sz:Nat)(n:Option Nat)(x i:SV)(k:Value→Prop)(_:Tok k):Prop:=match x,i with
 |.val (.agg cs),.val (.int _ j)=>0≤j∧j<len∧zd7 cs.toList (j.toNat*sz) n k
 |_,_=>False
def LoadP(R:RO)(a:Addr)(ks:SV→Prop)(_:Tok ks):Prop:=∃v,R a v∧ks (.val v)
def zmD(R:RO)(a:Addr)(n:Nat)(kv:Value→Prop)(_:Tok kv):Prop:=∃vs:List Value,vs.length=n∧(∀j v,vs[j]?=some v→R (a.add j) v)∧kv (.agg vs.toArray)
def AtT(a:Option Addr)(o:Nat)(ks:SV→Prop)(_:Tok ks):Prop:=∃ad,a=some ad∧ks (.val (.pointer (some (ad.add o))))
def SrcP(R:RO)(sz:Nat)(a:Option Addr)(m:Nat)(kk:List Value→Prop)(_:Tok kk):Prop :=
 ∃vs:List Value,vs.length=m*sz∧(∀u∈vs,u.oneCell'=true)∧(vs≠[]→∃ad,a=some ad∧∀i v,vs[i]?=some v→R (ad.add i) v)∧kk vs
def AppO(b:List Blk)(j T sz by' n m:Nat)(ys:List Value)(k:List Value→Prop)(_:Tok k):Prop :=
 ∃cs0 cs,b[j]?=some (.row T sz cs)∧cs0 <+: cs∧cs0.length=n*sz∧(n+m)*by'≤1099511627776∧k (cs0++ys)
def AppS(b:List Blk)(ad:Addr)(T sz by' n cap m:Nat)(ys:List Value)(R:RO)(k:Nat→Nat→Nat→RO→List Value→Prop)(_:Tok k):Prop :=
 ∃j cs,b[j]?=some (.shr ad.block cap T sz cs)∧ad.off=0∧ad.spot=none∧cs.length=n*sz∧(n+m)*by'≤1099511627776 ∧
   ∀(b' cap':Nat) (R':RO),RO.le R R'→RowIn R' b' (cs++ys)→(cs++ys).length≤cap'*sz→(b'=ad.block∨Fresh R b')→k j b' cap' R' (cs++ys)
def RetT(rs:List RV)(s:St)(k:List Value→St→Prop)(_:Tok k):Prop:=vcRes s rs k
def frzE(e:Nat→SV)(k b cap:Nat):Nat→SV:=fun t=>unsl k b cap (e t)
theorem zol(c:Cap):renC [] c=c:=by cases c<;>rfl
theorem zqu(x:SV):ren [] x=x:=by
 cases x with
 |fn f cs =>
  simp only[ren]
  congr 1
  conv=>rhs;rw[←List.map_id cs]
  exact List.map_congr_left fun c _=>zol c
 |_=>rfl
theorem zpF(k:Nat):rn [] k=k:=rfl
section
variable (P:PG) {kn:St→Prop} {ke:Nat→St→Prop} {kr:St→Prop} {tn:Tok kn} {te:Tok ke} {tr:Tok kr} {s:St} {K:St→Prop} {tK:Tok K} {k:SV→St→Prop} {tk:Tok k} {kv:Value→Prop} {tv:Tok kv} {ks:SV→Prop} {ts:Tok ks}
 {kl:Value→St→Prop} {tl:Tok kl} {kls:List Value→St→Prop} {tls:Tok kls}
theorem zkx:CodeT P .skip s kn ke kr tn te tr=kn s:=Eq.trans rfl rfl
theorem zmE(l):CodeT P (.ops l) s kn ke kr tn te tr=zdi P l s kn .mk:=Eq.trans rfl rfl
theorem zky(t):CodeT P (.tree t) s kn ke kr tn te tr=TreeT P t s kn .mk:=Eq.trans rfl rfl
theorem zbU(a b):CodeT P (.seq a b) s kn ke kr tn te tr=CodeT P a s (fun s'=>CodeT P b s' kn ke kr .mk .mk .mk) ke kr .mk .mk .mk:=Eq.trans rfl rfl
theorem zfT(id b):CodeT P (.block id b) s kn ke kr tn te tr=CodeT P b s kn (fun i s'=>if i=id then kn s' else ke i s') kr .mk .mk .mk:=by
 simp only[CodeT,zbs]
 congr 1
 funext i s'
 by_cases h:i=id<;>simp[h]
theorem zkz(id):CodeT P (.exit id) s kn ke kr tn te tr=ke id s:=Eq.trans rfl rfl
theorem zmF:CodeT P .ret s kn ke kr tn te tr=kr s:=Eq.trans rfl rfl
theorem zkA(b):CodeT P (.loop b) s kn ke kr tn te tr=VLoop P b s kn ke kr .mk .mk .mk .mk:=Eq.trans rfl rfl
theorem zkB(c a b):CodeT P (.cond c a b) s kn ke kr tn te tr=IfT (s.ev c) (CodeT P a s kn ke kr .mk .mk .mk) (CodeT P b s kn ke kr .mk .mk .mk) .mk .mk:=Eq.trans rfl rfl
theorem zjR(t:Nat)(v:SV)(h:s.env t=v):s.put (some t) v=s:=by
 have:upd s.env t v=s.env:=by
  funext i
  simp only[upd]
  split
  ·rename_i e;rw[e,h]
  ·rfl
 simp only[St.put,this]
theorem ziS(t a b):CodeT P (.cond (.tmp t) a b) s kn ke kr tn te tr=IfT (s.ev (.tmp t)) (CodeT P a (s.put (some t) (.val (.bool true))) kn ke kr .mk .mk .mk) (CodeT P b (s.put (some t) (.val (.bool false))) kn ke kr .mk .mk .mk) .mk .mk:=by
 rw[zkB]
 simp only[IfT,St.ev]
 cases hs:s.env t with
 |val v =>
  cases v<;>try rfl
  rename_i c
  cases c
  ·simp[zjR t _ hs]
  ·simp[zjR t _ hs]
 |_=>rfl
theorem tIf(t:Bool)(A B:Prop)(ta tb):IfT (.val (.bool t)) A B ta tb=((t=true→A)∧(t=false→B)):=Eq.trans rfl rfl
theorem zom(A B:Prop)(ta tb):IfT (.val (.bool true)) A B ta tb=A:=by simp[IfT]
theorem zmG(A B:Prop)(ta tb):IfT (.val (.bool false)) A B ta tb=B:=by simp[IfT]
theorem tGrd(c b:Bool)(A B C:Prop)(ta tb tc):GrdT (.val (.bool c)) b A B C ta tb tc=((c=b→A)∧(c = !b→B)):=Eq.trans rfl rfl
theorem zqv(A B C:Prop)(ta tb tc):GrdT (.val (.bool true)) true A B C ta tb tc=A:=by simp[GrdT]
theorem zqw(A B C:Prop)(ta tb tc):GrdT (.val (.bool true)) false A B C ta tb tc=B:=by simp[GrdT]
theorem zqx(A B C:Prop)(ta tb tc):GrdT (.val (.bool false)) true A B C ta tb tc=B:=by simp[GrdT]
theorem zqy(A B C:Prop)(ta tb tc):GrdT (.val (.bool false)) false A B C ta tb tc=A:=by simp[GrdT]
theorem zkC(b:Bool)(A B C:Prop)(ta tb tc):GrdT (.val undef) b A B C ta tb tc=C:=Eq.trans rfl rfl
theorem zkD:zdi P [] s K tK=K s:=Eq.trans rfl rfl
theorem ziT(d o r):zdi P (⟨d,none,o⟩::r) s K tK=OpT P o s (fun v s'=>zdi P r (s'.put d v) K .mk) .mk:=Eq.trans rfl rfl
theorem ziU(d t b o r):zdi P (⟨d,some (t,b),o⟩::r) s K tK=GrdT (s.env t) b (OpT P o (s.put (some t) (.val (.bool b))) (fun v s'=>zdi P r (s'.put d v) K .mk) .mk)
  (zdi P r ((s.put (some t) (.val (.bool !b))).put d (.val undef)) K .mk) (zdi P r (s.put d (.val undef)) K .mk) .mk .mk .mk:=Eq.trans rfl rfl
theorem zmH:TreeT P .nil s K tK=K s:=Eq.trans rfl rfl
theorem zkE(x r):TreeT P (.step x r) s K tK=zdi P [x] s (fun s'=>TreeT P r s' K .mk) .mk:=Eq.trans rfl rfl
theorem zmI(n x r):TreeT P (.pre n x r) s K tK=((cellsOf (s.ev x)).length=n∧(cellsOf (s.ev x)).all one'=true∧TreeT P r s K .mk):=by
 have:((cellsOf (s.ev x)).all one'=true)=(∀c∈cellsOf (s.ev x),match c with|.val u=>u.oneCell'=true|_=>True):=by
  simp only[List.all_eq_true]
  refine propext ⟨fun h c hc=>?_,fun h c hc=>?_⟩
  ·have:=h c hc;cases c<;>first|exact this|rfl|trivial
  ·have:=h c hc;cases c<;>first|exact this|rfl|trivial
 rw[this]
 exact Eq.trans rfl rfl
theorem zmJ(x l r):TreeT P (.alt x l r) s K tK=(zdi P [x] s (fun s'=>TreeT P l s' K .mk) .mk∧TreeT P r s K .mk):=Eq.trans rfl rfl
theorem zmK(e b R v):St.put ⟨e,b,R⟩ none v=⟨e,b,R⟩:=Eq.trans rfl rfl
theorem zmL(e b R d v):St.put ⟨e,b,R⟩ (some d) v=⟨upd e d v,b,R⟩:=Eq.trans rfl rfl
theorem zqz(e b R t):St.ev ⟨e,b,R⟩ (.tmp t)=e t:=Eq.trans rfl rfl
theorem zmM(v):St.ev s (.const v) = .val v:=Eq.trans rfl rfl
theorem zon(f):St.ev s (.func f) = .val (.func (.func f) #[] #[]):=Eq.trans rfl rfl
theorem tFrz(e b R j b' cap R' T sz cs):frz ⟨e,b,R⟩ j b' cap R' T sz cs=⟨frzE e j b' cap,(b.map (unslB j b' cap)).set j (.shr b' cap T sz cs),R'⟩:=Eq.trans rfl rfl
theorem tFrzE(e:Nat→SV)(k b cap t):frzE e k b cap t=unsl k b cap (e t):=Eq.trans rfl rfl
theorem zoo(k b cap j n):unsl k b cap (.sl j n)=if j=k then .val (.slice (some ⟨b,0,none⟩) n cap) else .sl j n:=Eq.trans rfl rfl
def frzBE(e:Nat→SV)(k b:Nat):Nat→SV:=fun t=>unloc k b (e t)
theorem tFrzB(e b R j b' R'):frzB ⟨e,b,R⟩ j b' R'=⟨frzBE e j b',(b.map (zcq j b')).set j .dead,R'⟩:=Eq.trans rfl rfl
theorem zrF(e:Nat→SV)(k b t):frzBE e k b t=unloc k b (e t):=Eq.trans rfl rfl
theorem zkF(k b v):unloc k b (.val v) = .val v:=rfl
theorem zmN(k b j n):unloc k b (.sl j n) = .sl j n:=rfl
theorem zmO(k b j z e n):unloc k b (.sw j z e n) = .sw j z e n:=rfl
theorem zmP(k b j):unloc k b (.mp j) = .mp j:=rfl
theorem zmQ(k b f cs):unloc k b (.fn f cs) = .fn f (cs.map (zhQ k b)):=rfl
theorem zmR(k b x):zhQ k b (.v x) = .v x:=rfl
theorem zh1(k b):zcq k b .dead = .dead:=rfl
theorem ziV(k b F):zcq k b (.own F) = .own F:=rfl
theorem ziW(k b cs):zcq k b (.box cs) = .box (cs.map (unloc k b)):=rfl
theorem ziX(k b T sz cs):zcq k b (.row T sz cs) = .row T sz cs:=rfl
theorem ziY(k b b' c T sz cs):zcq k b (.shr b' c T sz cs) = .shr b' c T sz cs:=rfl
theorem zkG(k b m x y z):zcq k b (.it m x y z) = .it m x y z:=rfl
theorem zkH(k b es c):zcq k b (.mp es c) = .mp es c:=rfl
theorem zmS(k b cap v):unsl k b cap (.val v) = .val v:=Eq.trans rfl rfl
theorem zmT(k b cap j o):unsl k b cap (.loc j o) = .loc j o:=Eq.trans rfl rfl
theorem zqA(x):OpT P (.mov x) s k tk=k (s.ev x) s:=Eq.trans rfl rfl
theorem zop(c a b):OpT P (.pick c a b) s k tk=IfT (s.ev c) (k (s.ev a) s) (k (s.ev b) s) .mk .mk:=Eq.trans rfl rfl
theorem zqB(op x y):OpT P (.bin op x y) s k tk=BinT op (s.ev x) (s.ev y) (fun r=>k (.val r) s) .mk:=Eq.trans rfl rfl
theorem zrG(op x):OpT P (.un op x) s k tk=UnT op (s.ev x) (fun r=>k (.val r) s) .mk:=Eq.trans rfl rfl
theorem zmU(l x y):OpT P (.shift l x y) s k tk=zmu l (s.ev x) (s.ev y) (fun r=>k (.val r) s) .mk:=Eq.trans rfl rfl
theorem zqC(n ks' x y):OpT P (.eqS n ks' x y) s k tk=EqST n ks' (s.ev x) (s.ev y) (fun r=>k (.val r) s) .mk:=Eq.trans rfl rfl
theorem zkI(x):OpT P (.nilchk x) s k tk=NilT (s.ev x) (fun v=>k v s) .mk:=Eq.trans rfl rfl
theorem zoq(x i):OpT P (.extr x i) s k tk=ExtrT (s.ev x) i (fun r=>k (.val r) s) .mk:=Eq.trans rfl rfl
theorem zmV(x o):OpT P (.faddr x o) s k tk=zmv (s.ev x) o (fun r=>k r s) .mk:=Eq.trans rfl rfl
theorem zmW(x i sz):OpT P (.iaddr x i sz) s k tk=zmw s (s.ev x) (s.ev i) sz (fun r=>k r s) .mk:=Eq.trans rfl rfl
theorem zkJ(x i l sz):OpT P (.iaddrA x i l sz) s k tk=zmx (s.ev x) (s.ev i) l sz (fun r=>k r s) .mk:=Eq.trans rfl rfl
theorem zor(n x):OpT P (.load n x) s k tk=LoadT n (s.ev x) s k .mk:=by cases n<;>rfl
theorem zmX(z ps):OpT P (.build z ps) s k tk=FillT s z ps (fun cs s'=>k (.val (.agg cs.toArray)) s') .mk:=Eq.trans rfl rfl
theorem zqD(x):OpT P (.len x) s k tk=LenT (s.ev x) (fun r=>k (.val r) s) .mk:=Eq.trans rfl rfl
theorem zos(x):OpT P (.slen x) s k tk=SlenT (s.ev x) (fun r=>k (.val r) s) .mk:=Eq.trans rfl rfl
theorem zot(i x):OpT P (.conv i x) s k tk=ConvT i (s.ev x) (fun r=>k (.val r) s) .mk:=Eq.trans rfl rfl
theorem zmY(z e b R):OpT P (.alloc z) ⟨e,b,R⟩ k tk=k (.loc b.length 0) ⟨e,b++[.box (z.map .val)],R⟩:=Eq.trans rfl rfl
theorem zqE(x e b R):OpT P (.box x) ⟨e,b,R⟩ k tk=k (.loc b.length 0) ⟨e,b++[.box (cellsOf (St.ev ⟨e,b,R⟩ x))],R⟩:=Eq.trans rfl rfl
theorem zkK(T sz len z ps):OpT P (.bslice T sz len z ps) s k tk=FillT s z ps (fun cs s'=>k (.sl s'.blk.length len) ⟨s'.env,s'.blk++[.row T sz cs],s'.R⟩) .mk:=Eq.trans rfl rfl
theorem zou(m f args):OpT P (.call m f args) s k tk=CallT P (zce (evs s args)) (evs s args) m f args s k .mk:=Eq.trans rfl rfl
theorem zmZ(xs:List SV)(m f args):CallT P true xs m f args s k tk=zfS P.P f (zcf xs) s.R (fun R' v=>k (.val v) ⟨s.env,s.blk,R'⟩) .mk (HandM m P.P f xs s k∨Lend P.P f xs s k∨LendA P.P f xs s k) .mk:=Eq.trans rfl rfl
theorem zov:evs s []=[]:=rfl
theorem zm0(x xs):evs s (x::xs)=s.ev x::evs s xs:=rfl
theorem ziZ:zce []=true:=rfl
theorem zi0(v r):zce (.val v::r)=zce r:=rfl
theorem zi1(a b r):zce (.loc a b::r)=false:=rfl
theorem zkL(a b r):zce (.sl a b::r)=false:=rfl
theorem zkM(a b c d r):zce (.sw a b c d::r)=false:=rfl
theorem zkN(a b r):zce (.fn a b::r)=false:=rfl
theorem zkO(a r):zce (.mp a::r)=false:=rfl
theorem zi2:zcf []=[]:=rfl
theorem zi3(v r):zcf (.val v::r)=v::zcf r:=rfl
theorem zm1(m x args):OpT P (.callv m x args) s k tk=zmp m P (s.ev x) (evs s args) s k .mk:=Eq.trans rfl rfl
theorem zow(m f first caps)(xs:List SV):zmp m P (.val (.func (.func f) first caps)) xs s k tk=(zaB P.P f=true∧zmq P.P (zce xs) f first.toList xs caps.toList s k .mk):=Eq.trans rfl rfl
theorem zqF(Q:Program)(f first caps)(xs:List SV):zmq Q true f first xs caps s k tk=zfS Q f (first++zcf xs++caps) s.R (fun R' v=>k (.val v) ⟨s.env,s.blk,R'⟩) .mk False .mk:=by
 simp[zmq,zfS]
theorem zm2(m f cs)(xs:List SV):zmp m P (.fn f cs) xs s k tk=(zaB P.P f=true∧zmo m P.P f (xs++cs.map capSV) s k .mk):=Eq.trans rfl rfl
theorem zox(f caps):OpT P (.mkfn f caps) s k tk=MkfnT (zbi (evs s caps)) f (fun r=>k r s) .mk:=Eq.trans rfl rfl
theorem tMkfn(f cs):MkfnT (some cs) f ks ts=ks (.fn f cs):=rfl
theorem zkP(m x y):OpT P (.minmax m x y) s k tk=ziP m (s.ev x) (s.ev y) (fun r=>k (.val r) s) .mk:=Eq.trans rfl rfl
theorem tMax(i a j b):ziP true (.val (.int i a)) (.val (.int j b)) kv tv=kv (.int i (max a b)):=by simp[ziP]
theorem zm3(n x):OpT P (.isnil n x) s k tk=zgJ n (s.ev x) (fun r=>k (.val r) s) .mk:=by
 simp only[OpT,vcOp,zgJ]
 split<;>rename_i h<;>first
  |(simp only[h];done)
  |(rename_i h1 h2 h3;split<;>rename_i h'<;>first|exact absurd h' (h1 _ _ _)|exact absurd h' (h2 _ _)|exact absurd h' (h3 _ _ _ _)|rfl)
theorem zoy(a n c):zgJ false (.val (.slice a n c)) kv tv=kv (.bool a.isNone):=rfl
theorem zoz(a n c):zgJ true (.val (.slice a n c)) kv tv=kv (.bool (!a.isNone)):=rfl
theorem zm4(g j n):zgJ g (.sl j n) kv tv=kv (.bool g):=rfl
theorem zm5(g j z e n):zgJ g (.sw j z e n) kv tv=kv (.bool g):=rfl
theorem zm6(e b R):OpT P .mmake ⟨e,b,R⟩ k tk=k (.mp b.length) ⟨e,b++[.mp [] 0],R⟩:=Eq.trans rfl rfl
theorem zoA(ks' z ok x y):OpT P (.mget ks' z ok x y) s k tk=MgetT ks' z ok (s.ev x) (s.ev y) s (fun r=>k (.val r) s) .mk:=Eq.trans rfl rfl
theorem tMget(ks' z ok j a e b R):MgetT ks' z ok (.mp j) (.val a) ⟨e,b,R⟩ kv tv=MgetB b j ks' z ok a kv .mk:=Eq.trans rfl rfl
theorem zoB(ks' x y v):OpT P (.mput ks' x y v) s k tk=MputT ks' (s.ev x) (s.ev y) (s.ev v) s k .mk:=Eq.trans rfl rfl
theorem tMput(ks' j a v):MputT ks' (.mp j) (.val a) v s k tk=(mEq ks' a a=some true∧LeafT v s (fun u s'=>MputB s'.env s'.blk s'.R j ks' a u k .mk) .mk):=Eq.trans rfl rfl
theorem tMdel(ks' j a e b R):MdelT ks' (.mp j) (.val a) ⟨e,b,R⟩ k tk=(mEq ks' a a=some true∧MdelB e b R j ks' a k .mk):=rfl
theorem zqG(m e b R):zqr (.mp m) ⟨e,b,R⟩ k tk=ziQ b[m]? m ⟨e,b,R⟩ k .mk:=rfl
theorem zoC(m es c e b R):ziQ (some (.mp es c)) m ⟨e,b,R⟩ k tk=k (.loc b.length 0) ⟨e,b++[.it m c [] c],R⟩:=rfl
theorem zrH(j e b R):zrE (.loc j 0) ⟨e,b,R⟩ k tk=zms b[j]? j ⟨e,b,R⟩ k .mk:=rfl
theorem zqH(j m since seen last e b R):zms (some (.it m since seen last)) j ⟨e,b,R⟩ k tk=zmr b[m]? j m since seen last ⟨e,b,R⟩ k .mk:=rfl
theorem zqI (j m since seen last es clock e b R) : zmr (some (.mp es clock)) j m since seen last ⟨e, b, R⟩ k tk = ((∀ e ∈ es, e.born < since) ∧ since ≤ last ∧ ((∀ e ∈ es, seen.contains e.born = true) → k (.val (.tuple #[.bool false])) ⟨e, b, R⟩) ∧
      ∀e'∈es,seen.contains e'.born=false→k (.val (.tuple #[.bool true,e'.key,e'.val])) ⟨e,b.set j (.it m since (seen++[e'.born]) clock),R⟩):=rfl
theorem zqJ(j e b R):zqs (.loc j 0) ⟨e,b,R⟩ k tk=ziR b[j]? ⟨e,b,R⟩ k .mk:=rfl
theorem zoD(m since seen last e b R):ziR (some (.it m since seen last)) ⟨e,b,R⟩ k tk=zmt b[m]? seen last ⟨e,b,R⟩ k .mk:=rfl
theorem zm7(n x v):OpT P (.store n x v) s k tk=zpD n (s.ev x) (s.ev v) s k .mk:=Eq.trans rfl rfl
theorem zkQ(T sz by' x y):OpT P (.append T sz by' x y) s k tk=SrcT s T sz (s.ev y) (fun m ys=>AppT T sz by' (s.ev x) m ys s k .mk) .mk:=Eq.trans rfl rfl
theorem zi4(T sz by' z l c):OpT P (.mkslice T sz by' z l c) s k tk=MkT T sz by' z (s.ev l) (s.ev c) s k .mk:=Eq.trans rfl rfl
theorem zm8(sz x lo hi):OpT P (.slice sz x lo hi) s k tk=zmB sz (s.ev x) lo hi s k .mk:=Eq.trans rfl rfl
theorem zm9(o n x):OpT P (.field o n x) s k tk=zpE o n (s.ev x) (fun r=>k (.val r) s) .mk:=Eq.trans rfl rfl
theorem zna(l sz n x i):OpT P (.index l sz n x i) s k tk=zmC l sz n (s.ev x) (s.ev i) (fun r=>k (.val r) s) .mk:=Eq.trans rfl rfl
theorem zoE(i a b):BinT .add (.val (.int i a)) (.val (.int i b)) kv tv=∃r,W i (a+b) r∧kv (.int i r):=by simp[BinT,vcBin,zcr]
theorem zoF(i a b):BinT .sub (.val (.int i a)) (.val (.int i b)) kv tv=∃r,W i (a-b) r∧kv (.int i r):=by simp[BinT,vcBin,zcr]
theorem zoG(i a b):BinT .mul (.val (.int i a)) (.val (.int i b)) kv tv=∃r,W i (a*b) r∧kv (.int i r):=by simp[BinT,vcBin,zcr]
theorem zoH(i a b):BinT .quo (.val (.int i a)) (.val (.int i b)) kv tv=(b≠0∧∃r,W i (a.tdiv b) r∧kv (.int i r)):=by simp[BinT,vcBin,zcr]
theorem zoI(i a b):BinT .rem (.val (.int i a)) (.val (.int i b)) kv tv=(b≠0∧kv (.int i (a.tmod b))):=by simp[BinT,vcBin,zcr]
theorem zoJ(i a b):BinT .eql (.val (.int i a)) (.val (.int i b)) kv tv=kv (.bool (decide (a=b))):=by simp[BinT,vcBin,zcr]
theorem zoK(i a b):BinT .neq (.val (.int i a)) (.val (.int i b)) kv tv=kv (.bool (decide (a≠b))):=by simp[BinT,vcBin,zcr]
theorem zoL(i a b):BinT .lss (.val (.int i a)) (.val (.int i b)) kv tv=kv (.bool (decide (a<b))):=by simp[BinT,vcBin,zcr]
theorem zoM(i a b):BinT .leq (.val (.int i a)) (.val (.int i b)) kv tv=kv (.bool (decide (a≤b))):=by simp[BinT,vcBin,zcr]
theorem zoN(i a b):BinT .gtr (.val (.int i a)) (.val (.int i b)) kv tv=kv (.bool (decide (b<a))):=by simp[BinT,vcBin,zcr]
theorem zoO(i a b):BinT .geq (.val (.int i a)) (.val (.int i b)) kv tv=kv (.bool (decide (b≤a))):=by simp[BinT,vcBin,zcr]
theorem zoP(a b):BinT .eql (.val (.string a)) (.val (.string b)) kv tv=kv (.bool (a==b)):=Eq.trans rfl rfl
theorem zoQ(a b):BinT .neq (.val (.string a)) (.val (.string b)) kv tv=kv (.bool (a != b)):=Eq.trans rfl rfl
theorem zqK(b):UnT .not (.val (.bool b)) kv tv=kv (.bool !b):=Eq.trans rfl rfl
theorem zqL(i n):UnT .neg (.val (.int i n)) kv tv=∃r,W i (0-n) r∧kv (.int i r):=Eq.trans rfl rfl
theorem tShr(i a j b):zmu false (.val (.int i a)) (.val (.int j b)) kv tv=(0≤b∧kv (.int i (a.fdiv (2 ^ (min b.toNat i.bits))))):=by simp[zmu]
theorem tEqS(n ks' us vs):EqST n ks' (.val (.agg us)) (.val (.agg vs)) kv tv=EqOT n (zad ks' us.toList vs.toList) kv .mk:=Eq.trans rfl rfl
theorem zrI(t):EqOT false (some t) kv tv=kv (.bool t):=Eq.trans rfl rfl
theorem zrJ(t):EqOT true (some t) kv tv=kv (.bool !t):=Eq.trans rfl rfl
theorem zoR(j o){k:SV→Prop}{t:Tok k}:NilT (.loc j o) k t=k (.loc j o):=Eq.trans rfl rfl
theorem zoS(a){k:SV→Prop}{t:Tok k}:NilT (.val (.pointer (some a))) k t=k (.val (.pointer (some a))):=Eq.trans rfl rfl
theorem tExtr(vs i):ExtrT (.val (.tuple vs)) i kv tv=OptT vs[i]? kv .mk:=Eq.trans rfl rfl
theorem tOpt(v):OptT (some v) kv tv=kv v:=Eq.trans rfl rfl
theorem zkR(j o f):zmv (.loc j o) f ks ts=ks (.loc j (o+f)):=Eq.trans rfl rfl
theorem zkS(a f):zmv (.val (.pointer (some a))) f ks ts=ks (.val (.pointer (some (a.add f)))):=Eq.trans rfl rfl
theorem zoT(a len c q n sz):zmw s (.val (.slice a len c)) (.val (.int q n)) sz ks ts=(0≤n∧n<len∧AtT a (n.toNat*sz) ks .mk):=Eq.trans rfl rfl
theorem znb(j len q n sz):zmw s (.sl j len) (.val (.int q n)) sz ks ts=(0≤n∧n<len∧ks (.loc j (n.toNat*sz))):=Eq.trans rfl rfl
theorem zi5(j o q n len sz):zmx (.loc j o) (.val (.int q n)) len sz ks ts=(0≤n∧n<len∧ks (.loc j (o+n.toNat*sz))):=Eq.trans rfl rfl
theorem zkT(j o):LoadT none (.loc j o) s k tk=zmy s.blk[j]? o (fun c=>k c s) .mk:=Eq.trans rfl rfl
theorem zkU(cs:List SV)(o):zmy (some (.box cs)) o ks ts=OptST cs[o]? ks .mk:=Eq.trans rfl rfl
theorem zkV(T sz)(cs:List Value)(o):zmy (some (.row T sz cs)) o ks ts=∃c,cs[o]?=some c∧ks (.val c):=Eq.trans rfl rfl
theorem tOptS(v):OptST (some v) ks ts=ks v:=Eq.trans rfl rfl
theorem zkW(a):LoadT none (.val (.pointer (some a))) s k tk=LoadP (allR s.blk s.R) a (fun c=>k c s) .mk:=Eq.trans rfl rfl
theorem zkX(n j o):LoadT (some n) (.loc j o) s k tk=zeS s j o n (fun vs s'=>k (.val (.agg vs.toArray)) s') .mk:=Eq.trans rfl rfl
theorem zkY(n a):LoadT (some n) (.val (.pointer (some a))) s k tk=zmD (allR s.blk s.R) a n (fun v=>k (.val v) s) .mk:=Eq.trans rfl rfl
theorem zi6(j off):zeS s j off 0 kls tls=kls [] s:=Eq.trans rfl rfl
theorem zi7(j off n):zeS s j off (n+1) kls tls=CellT s.blk[j]? s j off n kls .mk:=Eq.trans rfl rfl
theorem znc(cs:List SV)(j off n):CellT (some (.box cs)) s j off n kls tls=OptST cs[off]? (fun c=>zmz c s (fun v s'=>zeS s' j (off+1) n (fun vs s''=>kls (v::vs) s'') .mk) .mk) .mk:=Eq.trans rfl rfl
theorem znd(T sz)(cs:List Value)(j off n):CellT (some (.row T sz cs)) s j off n kls tls=∃v,cs[off]?=some v∧zeS s j (off+1) n (fun vs s''=>kls (v::vs) s'') .mk:=Eq.trans rfl rfl
theorem zne(v):LeafT (.val v) s kl tl=kl v s:=Eq.trans rfl rfl
theorem zkZ(v):zmz (.val v) s kl tl=kl v s:=Eq.trans rfl rfl
theorem znf(j n):zmz (.sl j n) s kl tl=zmA s.blk[j]? j n s kl .mk:=Eq.trans rfl rfl
theorem zng(j o):LeafT (.loc j o) s kl tl=zpC s.blk[j]? j o s kl .mk:=Eq.trans rfl rfl
theorem zrK(cs:List SV)(j o):zpC (some (.box cs)) j o s kl tl=zeS s j 0 cs.length (fun vs s'=>FrzLT s'.blk[j]? j o vs s' kl .mk) .mk:=Eq.trans rfl rfl
theorem tFrzL(cs:List SV)(j o)(vs:List Value):FrzLT (some (.box cs)) j o vs s kl tl=∀(b:Nat) (R':RO),RO.le s.R R'→RowIn R' b vs→Fresh s.R b→kl (.pointer (some ⟨b,o,none⟩)) (frzB s j b R'):=Eq.trans rfl rfl
theorem zoU(j n):LeafT (.sl j n) s kl tl=zmA s.blk[j]? j n s kl .mk:=Eq.trans rfl rfl
theorem zrL(T sz)(cs:List Value)(j n):zmA (some (.row T sz cs)) j n s kl tl=∀(b cap:Nat) (R':RO),RO.le s.R R'→RowIn R' b cs→cs.length≤cap*sz→Fresh s.R b→kl (.slice (some ⟨b,0,none⟩) n cap) (frz s j b cap R' T sz cs):=Eq.trans rfl rfl
theorem zi8:zhb s [] kls tls=kls [] s:=Eq.trans rfl rfl
theorem zh2(x xs):zhb s (x::xs) kls tls=LeafT (s.ev x) s (fun v s'=>zhb s' xs (fun vs s''=>kls (v::vs) s'') .mk) .mk:=Eq.trans rfl rfl
theorem znh(cs):FillT s cs [] kls tls=kls cs s:=Eq.trans rfl rfl
theorem zk0(cs off sz x ps):FillT s cs ((off,sz,x)::ps) kls tls=LeafT (s.ev x) s (fun v s'=>v.cells.size=sz∧off+sz≤cs.length∧FillT s' (putAt off cs v.cells.toList) ps kls .mk) .mk:=Eq.trans rfl rfl
theorem zrM(a n c):LenT (.val (.slice a n c)) kv tv=kv (.int .i64 n):=Eq.trans rfl rfl
theorem zqM(j n):LenT (.sl j n) kv tv=kv (.int .i64 n):=Eq.trans rfl rfl
theorem tSlen(b):SlenT (.val (.string b)) kv tv=kv (.int .i64 b.size):=Eq.trans rfl rfl
theorem tConv(i q n):ConvT i (.val (.int q n)) kv tv=∃r,W i n r∧kv (.int i r):=Eq.trans rfl rfl
theorem zrN(n j o v):zpD n (.loc j o) v s k tk=zhc s.blk[j]? n j o v s k .mk:=Eq.trans rfl rfl
theorem zk1(cs:List SV)(n j o v e b R):zhc (some (.box cs)) n j o v ⟨e,b,R⟩ k tk=((cellsOf v).length=n∧o+n≤cs.length∧(cellsOf v).all one'=true∧k (.val undef) ⟨e,b.set j (.box (zcF o cs (cellsOf v))),R⟩):=by
 have:((cellsOf v).all one'=true)=(∀c∈cellsOf v,match c with|.val u=>u.oneCell'=true|_=>True):=by
  simp only[List.all_eq_true]
  refine propext ⟨fun h c hc=>?_,fun h c hc=>?_⟩
  ·have:=h c hc;cases c<;>first|exact this|rfl|trivial
  ·have:=h c hc;cases c<;>first|exact this|rfl|trivial
 simp only[zhc,this]
theorem zk2 (T sz) (cs : List Value) (n j o v) : zhc (some (.row T sz cs)) n j o v s k tk = LeafT v s (fun u s' => u.cells.size = n ∧ o + n ≤ cs.length ∧ (∀ c ∈ u.cells.toList, c.oneCell' = true) ∧
      s'.blk[j]?=some (.row T sz cs)∧k (.val undef) ⟨s'.env,s'.blk.set j (.row T sz (putAt o cs u.cells.toList)),s'.R⟩) .mk:=Eq.trans rfl rfl
theorem zrO{kk:Nat→List Value→Prop}{tt:Tok kk}(T sz a m c):SrcT s T sz (.val (.slice a m c)) kk tt=SrcP (allR s.blk s.R) sz a m (kk m) .mk:=Eq.trans rfl rfl
theorem zqN{kk:Nat→List Value→Prop}{tt:Tok kk}(T sz j m):SrcT s T sz (.sl j m) kk tt=∃cs,s.blk[j]?=some (.row T sz cs)∧m*sz≤cs.length∧(∀u∈cs,u.oneCell'=true)∧kk m (cs.take (m*sz)):=Eq.trans rfl rfl
theorem zjS(T sz by' m ys e b R):AppT T sz by' (.val (.slice none 0 0)) m ys ⟨e,b,R⟩ k tk=((m=0→k (.val (.slice none 0 0)) ⟨e,b,R⟩)∧(m≠0→m*by'≤1099511627776∧k (.sl b.length m) ⟨e,b++[.row T sz ys],R⟩)):=Eq.trans rfl rfl
theorem zoV(T sz by' a n cap m ys e b R):AppT T sz by' (.val (.slice (some a) (n+1) cap)) m ys ⟨e,b,R⟩ k tk=AppS b a T sz by' (n+1) cap m ys R (fun j b' cap' R' cs=>k (.val (.slice (some ⟨b',0,none⟩) (n+1+m) cap')) ⟨e,b.set j (.shr b' cap' T sz cs),R'⟩) .mk:=Eq.trans rfl rfl
theorem tAt(ad o):AtT (some ad) o ks ts=ks (.val (.pointer (some (ad.add o)))):=by simp[AtT]
theorem zni(T sz by' j n m ys e b R):AppT T sz by' (.sl j n) m ys ⟨e,b,R⟩ k tk=AppO b j T sz by' n m ys (fun cs=>k (.sl b.length (n+m)) ⟨e,b.set j .dead++[.row T sz cs],R⟩) .mk:=Eq.trans rfl rfl
theorem tMk(T sz by' z q n q' m e b R):MkT T sz by' z (.val (.int q n)) (.val (.int q' m)) ⟨e,b,R⟩ k tk=(0≤n∧n≤m∧m*by'≤1099511627776∧k (.sl b.length n.toNat) ⟨e,b++[.row T sz (zaw z n.toNat)],R⟩):=Eq.trans rfl rfl
theorem zoW (sz a len cap lo hi) : zmB sz (.val (.slice a len cap)) lo hi s k tk = ∃ l h : Nat, bnd s lo 0 l ∧ bnd s hi len h ∧ l ≤ h ∧ h ≤ cap ∧
      k (.val (.slice (if cap=l then a else a.map (·.add (l*sz))) (h-l) (cap-l))) s:=Eq.trans rfl rfl
theorem znj(sz j len lo hi):zmB sz (.sl j len) lo hi s k tk=∃l h:Nat,bnd s lo 0 l∧bnd s hi len h∧l≤h∧0<sz∧(∃T cs,s.blk[j]?=some (.row T sz cs)∧h*sz≤cs.length)∧k (if l=0 then .sl j h else .sw j sz l (h-l)) s:=Eq.trans rfl rfl
theorem zqO(o cs):zpE o none (.val (.agg cs)) kv tv=OptT cs.toList[o]? kv .mk:=Eq.trans rfl rfl
theorem zqP(len sz cs q j):zmC len sz none (.val (.agg cs)) (.val (.int q j)) kv tv=(0≤j∧j<len∧OptT cs.toList[j.toNat*sz]? kv .mk):=Eq.trans rfl rfl
theorem zqQ(len sz n cs q j):zmC len sz (some n) (.val (.agg cs)) (.val (.int q j)) kv tv=(0≤j∧j<len∧j.toNat*sz+n≤cs.toList.length∧kv (.agg ((cs.toList.drop (j.toNat*sz)).take n).toArray)):=Eq.trans rfl rfl
theorem zoX:RetT [] s kls tls=kls [] s:=Eq.trans rfl rfl
theorem zoY(t r):RetT (.tmp t::r) s kls tls=LeafT (s.env t) s (fun v s'=>RetT r s' (fun vs s''=>kls (v::vs) s'') .mk) .mk:=Eq.trans rfl rfl
def RetCT(x:SV)(n:Option Nat)(s:St)(r:List RV)(k:List Value→St→Prop)(_:Tok k):Prop:=match x with
 |.loc j o=>match n with
  |none=>zaW s j o 1 fun us s'=>vcRes s' r fun vs s''=>k (us.headD undef::vs) s''
  |some n=>zaW s j o n fun us s'=>vcRes s' r fun vs s''=>k (.agg us.toArray::vs) s''
 |_=>False
theorem znk(t n r):RetT (.cell t n::r) s kls tls=RetCT (s.env t) n s r kls .mk:=Eq.trans rfl rfl
theorem zqR(j o r):RetCT (.loc j o) none s r kls tls=zeS s j o 1 (fun us s'=>RetT r s' (fun vs s''=>kls (us.headD undef::vs) s'') .mk) .mk:=Eq.trans rfl rfl
theorem zqS(j o n r):RetCT (.loc j o) (some n) s r kls tls=zeS s j o n (fun us s'=>RetT r s' (fun vs s''=>kls (.agg us.toArray::vs) s'') .mk) .mk:=Eq.trans rfl rfl
theorem tEnvS(l t):envS l t=l.getD t (.val undef):=Eq.trans rfl rfl
def RetST(rs:List RV)(s:St)(k:SV→St→Prop)(_:Tok k):Prop:=zjQ s rs k
theorem znl(t):RetST [.tmp t] s k tk=k (s.env t) s:=Eq.trans rfl rfl
theorem znm:RetST [] s k tk=k (.val (.tuple #[])) s:=Eq.trans rfl rfl
theorem zk3(a b r):RetST (a::b::r) s k tk=RetT (a::b::r) s (fun vs s'=>k (.val (zbT vs)) s') .mk:=by
 cases a<;>rfl
theorem znn(ρ sb i):blkM ρ sb i []=True:=rfl
theorem zey(ρ sb i r):blkM ρ sb i (.dead::r)=blkM ρ sb (i+1) r:=rfl
theorem zno(ρ sb i F r):blkM ρ sb i (.own F::r)=((∃G,sb[rn ρ i]?=some (.own G)∧RO.le F G)∧blkM ρ sb (i+1) r):=rfl
theorem znp(ρ sb i cs r):blkM ρ sb i (.box cs::r)=(sb[rn ρ i]?=some (.box (cs.map (ren ρ)))∧blkM ρ sb (i+1) r):=rfl
theorem zh3(ρ sb i T sz cs r):blkM ρ sb i (.row T sz cs::r)=(sb[rn ρ i]?=some (.row T sz cs)∧blkM ρ sb (i+1) r):=rfl
theorem zh4(ρ sb i b c T sz cs r):blkM ρ sb i (.shr b c T sz cs::r)=(sb[rn ρ i]?=some (.shr b c T sz cs)∧blkM ρ sb (i+1) r):=rfl
theorem zoZ(ρ sb i m a b c r):blkM ρ sb i (.it m a b c::r)=(sb[rn ρ i]?=some (.it (rn ρ m) a b c)∧blkM ρ sb (i+1) r):=rfl
theorem zo0(ρ sb i es c r):blkM ρ sb i (.mp es c::r)=(sb[rn ρ i]?=some (.mp es c)∧blkM ρ sb (i+1) r):=rfl
theorem zfU(n:Nat):rnInj [] n=true:=by
 simp only[rnInj,List.all_eq_true,List.mem_range,bne_iff_ne,ne_eq,zpF]
 intro i _ j hj e
 omega
theorem zi9(vals:List (Nat×SV))(blks:List Blk):za3 0 [] vals blks=(zeO vals&&(vals.all fun p=>p.2.ok blks.length)&&blks.all (scB blks.length)):=by
 simp[za3,zfU]
theorem zh5(ρ:List Nat)(vals:List (Nat×SV))(blks:List Blk):za3 0 ρ vals blks=(zeO vals&&(vals.all fun p=>p.2.ok blks.length)&&blks.all (scB blks.length)&&rnInj ρ blks.length):=by
 simp[za3]
theorem znq(n v):SV.ok n (.val v)=true:=rfl
theorem zqT(n k o):SV.ok n (.loc k o)=decide (k<n):=rfl
theorem zpG(n k o):SV.ok n (.sl k o)=decide (k<n):=rfl
theorem zrP(n k a b c):SV.ok n (.sw k a b c)=decide (k<n):=rfl
theorem zrQ(n k):SV.ok n (.mp k)=decide (k<n):=rfl
theorem zrR(n f cs):SV.ok n (.fn f cs)=cs.all (Cap.ok n):=rfl
theorem znr(n):scB n .dead=true:=rfl
theorem zo1(n F):scB n (.own F)=true:=rfl
theorem zo2(n cs):scB n (.box cs)=cs.all (SV.ok n):=rfl
theorem zo3(n T sz cs):scB n (.row T sz cs)=true:=rfl
theorem zo4(n b c T sz cs):scB n (.shr b c T sz cs)=true:=rfl
theorem zqU(n m a b c):scB n (.it m a b c)=decide (m<n):=rfl
theorem zqV(n es c):scB n (.mp es c)=true:=rfl
theorem zja(k b cap):unslB k b cap .dead = .dead:=rfl
theorem zk4(k b cap F):unslB k b cap (.own F) = .own F:=rfl
theorem zk5(k b cap cs):unslB k b cap (.box cs) = .box (cs.map (unsl k b cap)):=rfl
theorem zk6(k b cap T sz cs):unslB k b cap (.row T sz cs) = .row T sz cs:=rfl
theorem zk7(k b cap b' c T sz cs):unslB k b cap (.shr b' c T sz cs) = .shr b' c T sz cs:=rfl
theorem zns(k b cap m x y z):unslB k b cap (.it m x y z) = .it m x y z:=rfl
theorem znt(k b cap es c):unslB k b cap (.mp es c) = .mp es c:=rfl
theorem zo5(k b cap f cs):unsl k b cap (.fn f cs) = .fn f cs:=rfl
theorem zo6(k b cap j):unsl k b cap (.mp j) = .mp j:=rfl
theorem zo7(ρ v):ren ρ (.val v) = .val v:=rfl
theorem zo8(ρ k o):ren ρ (.loc k o) = .loc (rn ρ k) o:=rfl
theorem zqW(ρ k n):ren ρ (.sl k n) = .sl (rn ρ k) n:=rfl
theorem zqX(ρ k):ren ρ (.mp k) = .mp (rn ρ k):=rfl
theorem tUpd(e t v i):upd e t v i=if i=t then v else e i:=Eq.trans rfl rfl
theorem zrS(l t):envOf l t = .val (l.getD t undef):=Eq.trans rfl rfl
end
attribute [go_sem low] zh5 Bool.and_eq_true
attribute [go_sem high] zi9 zqu zpF zom zmG zqv zqw zqx zqy zkC
attribute [go_sem] zoZ zqU zns zno zo1 zk4 Blk.own.injEq
attribute [go_sem] tMdel zqG zoC zrH zqH zqI zqJ zoD
attribute [go_sem] zm3 zoy zoz zm4 zm5 zm6 zoA tMget zoB tMput
attribute [go_sem] zkx zmE zky zmH zkE zmI zmJ zbU zfT zkz zmF zkA ziS tIf tGrd zkD ziT ziU zmK zmL zqz zmM zon tFrz tFrzE zoo zmS zmT
 zqA zop zqB zrG zmU zqC zoq zmV zmW zkJ zor zmX zqD zos zot zmY zqE zkK zou zmZ zov zm0 ziZ zi0 zi1 zkL zkM zkN zkO zi2 zi3 zm1 zow zqF zm2 zox tMkfn zkP tMax zkI zoR zoS zkZ znf zng zrK tFrzL tFrzB zrF zkF zmN zmO zmP zmQ zmR zh1 ziV ziW ziX ziY zkG zkH tEnvS znl znm zk3 znn zey znp zh3 zh4 zo0 zo5 zo6 zo7 zo8 zqW zqX zbi zdR capSV zm7 zkQ zi4 zm8 zm9 zna
 zoE zoF zoG zoH zoI zoJ zoK zoL zoM zoN zoO zoP zoQ zqK zqL tShr tEqS zrI zrJ tExtr tOpt zkR zkS zoT znb zi5
 zkT zkU zkV tOptS zkW zkX zkY zi6 zi7 znc znd zne zoU zrL zi8 zh2 znh zk0 zrM zqM tSlen tConv zrN zk1 zk2 zrO zqN zjS zoV zni tAt tMk zoW znj
 zqO zqP zqQ zoX zoY znk zqR zqS one'
attribute [go_sem] tUpd zrS putAt zcF cellsOf zaw bnd zja zk5 zk6 zk7 znt zad zbT zcu zeO znq zqT zpG zrP zrQ zrR znr zo2 zo3 zo4 zqV rn Value.oneCell' Value.cells
attribute [go_sem] Int.toNat_natCast Nat.mul_one Nat.zero_mul Nat.zero_add Nat.add_zero Int.natCast_nonneg Nat.le_refl
attribute [go_sem] List.getD_cons_zero List.getD_cons_succ List.getD_nil List.getElem?_cons_zero List.getElem?_cons_succ List.getElem?_nil List.getElem?_toArray List.length_cons List.length_nil List.length_append List.length_set List.set_cons_zero List.set_cons_succ List.nil_append List.cons_append List.append_nil
 List.map_cons List.map_nil List.take_succ_cons List.take_zero List.headD_cons List.mem_cons List.not_mem_nil or_false forall_eq forall_eq_or_imp List.all_cons List.all_nil Bool.and_true Bool.and_self List.size_toArray List.toList_toArray List.drop_zero List.drop_succ_cons
 decide_eq_true_eq decide_eq_false_iff_not true_and and_true if_true if_false forall_const true_implies false_implies implies_true and_self not_true_eq_false not_false_eq_true Bool.not_true Bool.not_false Bool.false_eq_true Bool.true_eq_false ne_eq Option.map_some Option.map_none Option.some.injEq exists_eq_left' exists_eq_left
 Blk.row.injEq Blk.shr.injEq Blk.box.injEq List.cons.injEq IntKind.bits Bool.not_eq_true' Bool.not_eq_false' Bool.not_eq_true Bool.not_eq_false eq_self Classical.not_not Bool.true_and Bool.false_and decide_true decide_false
theorem vload{b:List Blk}{R:RO}{a:Addr}{ks:SV→Prop}{t:Tok ks}(v:Value)(h:R a v)(hk:ks (.val v)):LoadP (allR b R) a ks t:=⟨v,.inl h,hk⟩
theorem zaf{b:List Blk}{R:RO}{a:Addr}{n:Nat}{kv:Value→Prop}{t:Tok kv}(vs:List Value)(hl:vs.length=n)(h:∀j v,vs[j]?=some v→R (a.add j) v)(hk:kv (.agg vs.toArray)):zmD (allR b R) a n kv t:=⟨vs,hl,fun j v hj => .inl (h j v hj),hk⟩
theorem vat{a:Option Addr}{o:Nat}{ks:SV→Prop}{t:Tok ks}(ad:Addr)(h:a=some ad)(hk:ks (.val (.pointer (some (ad.add o))))):AtT a o ks t:=⟨ad,h,hk⟩
theorem vsrc{b:List Blk}{R:RO}{sz m:Nat}{a:Option Addr}{kk:List Value→Prop}{t:Tok kk}(vs:List Value)(hl:vs.length=m*sz)(h1:∀u∈vs,u.oneCell'=true)(h:vs≠[]→∃ad,a=some ad∧∀i v,vs[i]?=some v→R (ad.add i) v)(hk:kk vs):SrcP (allR b R) sz a m kk t:=⟨vs,hl,h1,fun hn=>by obtain⟨ad,h1,h2⟩:=h hn;exact⟨ad,h1,fun i v hi => .inl (h2 i v hi)⟩,hk⟩
theorem vapp{b:List Blk}{ad:Addr}{T sz by' n cap m:Nat}{ys:List Value}{R:RO}{k:Nat→Nat→Nat→RO→List Value→Prop}{t:Tok k}(j:Nat)(cs:List Value)(hj:b[j]?=some (.shr ad.block cap T sz cs))(h0:ad.off=0)(h1:ad.spot=none)
  (hl:cs.length=n*sz) (hb:(n+m)*by'≤1099511627776) (hk:∀(b' cap':Nat) (R':RO),RO.le R R'→RowIn R' b' (cs++ys)→(cs++ys).length≤cap'*sz→k j b' cap' R' (cs++ys)):AppS b ad T sz by' n cap m ys R k t:=⟨j,cs,hj,h0,h1,hl,hb,fun b' cap' R' g1 g2 g3 _=>hk b' cap' R' g1 g2 g3⟩
theorem vmget{b:List Blk}{j:Nat}{ks:Option (List Nat)}{z:Value}{ok:Bool}{a:Value}{k:Value→Prop}{t:Tok k}(es:List MapEntry)(clock:Nat)(r:Option (Nat×Value))(h0:mEq ks a a=some true)(hj:b[j]?=some (.mp es clock))(hr:mfind ks a es 0=some r)(hk:k (mres z ok r)):MgetB b j ks z ok a k t:=⟨h0,es,clock,r,hj,hr,hk⟩
theorem vmput{e:Nat→SV}{b:List Blk}{R:RO}{j:Nat}{ks:Option (List Nat)}{a u:Value}{k:SV→St→Prop}{t:Tok k}(es:List MapEntry)(clock:Nat)(r:Option (Nat×Value))(hj:b[j]?=some (.mp es clock))(hr:mfind ks a es 0=some r)
  (hk:k (.val undef) ⟨e,b.set j (mset a u es clock r),R⟩):MputB e b R j ks a u k t:=⟨es,clock,r,hj,hr,hk⟩
theorem vcall{P:Program}{f:FuncId}{args:List Value}{R:RO}{k:RO→Value→Prop}{t:Tok k}{H:Prop}{tH:Tok H}{Post:RO→Value→Prop}(h:zaa P f args R Post)(hk:∀R' v,RO.le R R'→Post R' v→k R' v):zfS P f args R k t H tH := .inl ⟨Post,h,hk⟩
theorem znu{P:Program}{f:FuncId}{args:List Value}{e:Nat→SV}{b:List Blk}{R:RO}{kk:RO→Value→Prop}{t:Tok kk}{k:SV→St→Prop}{ys:List SV}{tH:Tok (HandM true P f ys ⟨e,b,R⟩ k∨Lend P f ys ⟨e,b,R⟩ k∨LendA P f ys ⟨e,b,R⟩ k)}(g:List Nat)(xs:List SV)(bs:List Blk){Post:RO→List Blk→SV→Prop}(hc:zaV P f xs bs R Post)(h1:ys=xs.map (ren g))
  (h2:g.length=bs.length) (h3:rnInj g bs.length=true) (h4:blkM g b 0 bs) (h5:∀i∈g,i<b.length) (h6:(xs.all (SV.ok bs.length))=true) (h7:(bs.all fun b=>scB bs.length b&&b.noShr)=true)
  (hk:∀R' bs' r,RO.le R R'→Post R' bs' r→bs.length≤bs'.length →
   k (ren (g++List.range' b.length (bs'.length-bs.length)) r) ⟨e,setG b g (bs'.map (renB (g++List.range' b.length (bs'.length-bs.length)))),R'⟩):zfS P f args R kk t (HandM true P f ys ⟨e,b,R⟩ k∨Lend P f ys ⟨e,b,R⟩ k∨LendA P f ys ⟨e,b,R⟩ k) tH :=
 .inr <| .inl ⟨g,xs,bs,Post,.inl rfl,hc,h1,h2,h3,h4,h5,h6,h7,hk⟩
theorem zrT(x:SV):ren [] x=x:=by
 cases x with
 |fn f cs =>
  simp only[ren]
  congr 1
  conv=>rhs;rw[←List.map_id cs]
  exact List.map_congr_left fun c _=>by cases c<;>rfl
 |_=>rfl
theorem znv(ys:List SV):ys.map (ren [])=ys:=(List.map_congr_left fun x _=>zrT x).trans (List.map_id ys)
theorem zpH{m:Bool}{P:Program}{f:FuncId}{args:List Value}{e:Nat→SV}{b:List Blk}{R:RO}{kk:RO→Value→Prop}{t:Tok kk}{k:SV→St→Prop}{ys:List SV}{tH:Tok (HandM m P f ys ⟨e,b,R⟩ k∨Lend P f ys ⟨e,b,R⟩ k∨LendA P f ys ⟨e,b,R⟩ k)}{Post:RO→List Blk→SV→Prop}(hc:zaV P f ys [] R Post)
  (h6:(ys.all (SV.ok 0))=true) (hk:∀R' bs' r,RO.le R R'→Post R' bs' r→k (ren (List.range' b.length bs'.length) r) ⟨e,b++bs'.map (renB (List.range' b.length bs'.length)),R'⟩):zfS P f args R kk t (HandM m P f ys ⟨e,b,R⟩ k∨Lend P f ys ⟨e,b,R⟩ k∨LendA P f ys ⟨e,b,R⟩ k) tH :=
 .inr <| .inl ⟨[],ys,[],Post,.inr ⟨rfl,fun _ _ _ _=>rfl⟩,hc,(by rw[znv]),rfl,rfl,trivial,(by simp),h6,rfl,fun R' bs' r h1 h2 _=>by
  have:=hk R' bs' r h1 h2
  have h3:setG b [] (bs'.map (renB (List.range' b.length bs'.length)))=b++bs'.map (renB (List.range' b.length bs'.length)):=by
   cases bs'.map (renB (List.range' b.length bs'.length))<;>rfl
  simpa[h3] using this⟩
theorem zal{P:PG}{b:VCode}{s:St}{kn:St→Prop}{ke:Nat→St→Prop}{kr:St→Prop}{t1:Tok kn}{t2:Tok ke}{t3:Tok kr}{t4:Tok b}(X:Type)(vals:X→List (Nat×SV))(blks:X→List Blk)(Φ:X→RO→Prop)(μ:X→Nat)(x0:X)(ρ0:List Nat)
  (h0:zcu ρ0 (vals x0) (blks x0) s) (h1:za3 P.ng ρ0 (vals x0) (blks x0)=true) (h2:Φ x0 s.R)
  (hr:∀x env R',RO.le s.R R'→(∀p∈vals x,env p.1=p.2)→Φ x R'→CodeT P b ⟨env,blks x,R'⟩
    (fun s'=>∃x' ρ,μ x'<μ x∧zcu ρ (vals x') (blks x') s'∧za3 P.ng ρ (vals x') (blks x')=true∧Φ x' s'.R) ke kr .mk .mk .mk):VLoop P b s kn ke kr t1 t2 t3 t4 :=
 ⟨X,vals,blks,Φ,μ,⟨x0,ρ0,h0,h1,h2⟩,hr⟩
theorem zaj{P:PG}{b:VCode}{s:St}{kn:St→Prop}{ke:Nat→St→Prop}{kr:St→Prop}{t1:Tok kn}{t2:Tok ke}{t3:Tok kr}{t4:Tok b}(X:Type)(vals:X→List (Nat×SV))(blks:X→List Blk)(Φ:X→RO→Prop)(μ:X→Nat)(x0:X)
  (h0:zcu [] (vals x0) (blks x0) s) (h1:za3 P.ng [] (vals x0) (blks x0)=true) (h2:Φ x0 s.R)
  (hr:∀x env R',RO.le s.R R'→(∀p∈vals x,env p.1=p.2)→Φ x R'→CodeT P b ⟨env,blks x,R'⟩
    (fun s'=>∃x',μ x'<μ x∧zcu [] (vals x') (blks x') s'∧za3 P.ng [] (vals x') (blks x')=true∧Φ x' s'.R) ke kr .mk .mk .mk):VLoop P b s kn ke kr t1 t2 t3 t4 :=
 zal X vals blks Φ μ x0 [] h0 h1 h2 fun x env R' g1 g2 g3=>zaP b (fun s' ⟨x',h⟩=>⟨x',[],h⟩) (fun _ _ h=>h) (fun _ h=>h) (hr x env R' g1 g2 g3)
theorem zac{P:Program}(hmix:P.follows .mixedOrders=true){f:FuncId}{fn:Func}{vc:VCode}{rs:List RV}(hf:P.funcs[f]?=some fn)(hc:zab P fn=some (vc,rs)){args:List Value}{R:RO}{Post:RO→Value→Prop}
  (hlen:args.length≤fn.ntmps) (h:CodeT ⟨P,0⟩ vc ⟨envOf args,[],R⟩ (fun s=>RetT rs s (fun vs s'=>Post s'.R (zbT vs)) .mk) (fun _ _=>False) (fun s=>RetT rs s (fun vs s'=>Post s'.R (zbT vs)) .mk) .mk .mk .mk):zaa P f args R Post :=
 zrC hmix hf hc hlen h
theorem zdj{P:Program}(hmix:P.follows .mixedOrders=true){f:FuncId}{fn:Func}{vc:VCode}{rs:List RV}(hf:P.funcs[f]?=some fn)(hc:zab P fn=some (vc,rs)){xs:List SV}{bs:List Blk}{R:RO}{Post:RO→List Blk→SV→Prop}
  (hlen:xs.length≤fn.ntmps) (hxs:(xs.all (SV.ok bs.length))=true) (hns:(bs.all Blk.noShr)=true)
  (h:CodeT ⟨P,bs.length⟩ vc ⟨envS xs,bs,R⟩ (fun s=>RetST rs s (fun r s'=>Post s'.R (s'.blk.map Blk.out) r) .mk) (fun _ _=>False) (fun s=>RetST rs s (fun r s'=>Post s'.R (s'.blk.map Blk.out) r) .mk) .mk .mk .mk):zaV P f xs bs R Post :=
 zrD hmix hf hc hlen hxs hns h
theorem zez{P:PG}{xs:List SV}{m:Bool}{f:FuncId}{args:List Operand}{s:St}{k:SV→St→Prop}{t:Tok k}(h:zhb s args (fun vs s'=>zfS P.P f vs s'.R (fun R' v=>k (.val v) ⟨s'.env,s'.blk,R'⟩) .mk False .mk) .mk):CallT P false xs m f args s k t:=by
 simp only[CallT,Bool.false_eq_true,if_false]
 exact .inl (zdW _ (fun vs s' h'=>h'.resolve_right id) h)
theorem vlend{P:PG}{xs:List SV}{m:Bool}{f:FuncId}{args:List Operand}{s:St}{k:SV→St→Prop}{t:Tok k} 
  (h:∀β κ R',LendR s β κ R'→∃Post,zaa P.P f (xs.map (den β κ)) R' Post∧∀R'' v R3,RO.le R' R''→Post R'' v→RO.le s.R R3→(∀a u,R'' a u→Fresh R' a.block→R3 a u)→k (.val v) ⟨s.env,s.blk,R3⟩):CallT P false xs m f args s k t:=by
 simp only[CallT,Bool.false_eq_true,if_false]
 exact .inr (.inl h)
theorem zrU{m:Bool}{P:Program}{xs:List SV}{f:FuncId}{s:St}{k:SV→St→Prop}{t:Tok k}
  (h:∀β κ R',LendR s β κ R'→∃Post,zaa P f (xs.map (den β κ)) R' Post∧∀R'' v R3,RO.le R' R''→Post R'' v→RO.le s.R R3→(∀a u,R'' a u→Fresh R' a.block→R3 a u)→k (.val v) ⟨s.env,s.blk,R3⟩):zmo m P f xs s k t := .inl h
theorem zpI{P:Program}{ys:List SV}{f:FuncId}{s:St}{k:SV→St→Prop}{t:Tok k}(g:List Nat)(xs:List SV)(bs:List Blk){Post:RO→List Blk→SV→Prop}(hc:zaV P f xs bs s.R Post)(h1:ys=xs.map (ren g))
  (h2:g.length=bs.length) (h3:rnInj g bs.length=true) (h4:blkM g s.blk 0 bs) (h5:∀i∈g,i<s.blk.length) (h6:(xs.all (SV.ok bs.length))=true) (h7:(bs.all fun b=>scB bs.length b&&b.noShr)=true)
  (hk:∀R' bs' r,RO.le s.R R'→Post R' bs' r→bs.length≤bs'.length →
   k (ren (g++List.range' s.blk.length (bs'.length-bs.length)) r) ⟨s.env,setG s.blk g (bs'.map (renB (g++List.range' s.blk.length (bs'.length-bs.length)))),R'⟩):zmo true P f ys s k t :=
 .inr ⟨g,xs,bs,Post,.inl rfl,hc,h1,h2,h3,h4,h5,h6,h7,hk⟩
theorem vhand{P:PG}{ys:List SV}{f:FuncId}{args:List Operand}{s:St}{k:SV→St→Prop}{t:Tok k}(g:List Nat)(xs:List SV)(bs:List Blk){Post:RO→List Blk→SV→Prop}(hc:zaV P.P f xs bs s.R Post)(h1:ys=xs.map (ren g))
  (h2:g.length=bs.length) (h3:rnInj g bs.length=true) (h4:blkM g s.blk 0 bs) (h5:∀i∈g,i<s.blk.length) (h6:(xs.all (SV.ok bs.length))=true) (h7:(bs.all fun b=>scB bs.length b&&b.noShr)=true)
  (hk:∀R' bs' r,RO.le s.R R'→Post R' bs' r→bs.length≤bs'.length →
   k (ren (g++List.range' s.blk.length (bs'.length-bs.length)) r) ⟨s.env,setG s.blk g (bs'.map (renB (g++List.range' s.blk.length (bs'.length-bs.length)))),R'⟩):CallT P false ys true f args s k t:=by
 simp only[CallT,Bool.false_eq_true,if_false]
 exact .inr (.inr (.inl ⟨g,xs,bs,Post,.inl rfl,hc,h1,h2,h3,h4,h5,h6,h7,hk⟩))
theorem vappO{b:List Blk}{j T sz by' n m:Nat}{ys:List Value}{k:List Value→Prop}{t:Tok k}(cs:List Value)(hj:b[j]?=some (.row T sz cs))(hl:cs.length=n*sz)(hb:(n+m)*by'≤1099511627776)(hk:k (cs++ys)):AppO b j T sz by' n m ys k t :=
 ⟨cs,cs,hj,List.prefix_rfl,hl,hb,hk⟩
def gs(j n:Nat):SV:=if n=0 then .val (.slice none 0 0) else .sl j n
def gb(T sz:Nat)(cs:List Value):Blk:=if cs=[] then .dead else .row T sz cs
theorem zdU(j:Nat):gs j 0 = .val (.slice none 0 0):=rfl
theorem zjb(j n:Nat):gs j (n+1) = .sl j (n+1):=rfl
theorem zaI{j n:Nat}(h:n≠0):gs j n = .sl j n:=if_neg h
theorem zbv(T sz:Nat):gb T sz [] = .dead:=rfl
theorem zqY(T sz:Nat)(c:Value)(cs:List Value):gb T sz (c::cs) = .row T sz (c::cs):=rfl
theorem gb_ne{T sz:Nat}{cs:List Value}(h:cs≠[]):gb T sz cs = .row T sz cs:=if_neg h
theorem zrV(ρ:List Nat)(j n:Nat):ren ρ (gs j n)=gs (rn ρ j) n:=by unfold gs;split<;>rfl
theorem zrW(n T sz:Nat)(cs:List Value):scB n (gb T sz cs)=true:=by unfold gb;split<;>rfl
theorem zqZ(ρ sb i T sz cs r):blkM ρ sb i (gb T sz cs::r)=((cs≠[]→sb[rn ρ i]?=some (.row T sz cs))∧blkM ρ sb (i+1) r):=by
 unfold gb
 split
 ·rename_i h;simp[h,zey]
 ·rename_i h;simp[h,zh3]
theorem zrX{j n:Nat}{kv:Value→Prop}{tv:Tok kv}:LenT (gs j n) kv tv=kv (.int .i64 n):=by
 unfold gs
 split
 ·rename_i h;subst h;rfl
 ·rfl
theorem vgrow{T sz by' j n m:Nat}{ys:List Value}{e:Nat→SV}{b:List Blk}{R:RO}{k:SV→St→Prop}{t:Tok k}(cs:List Value)(hj:cs≠[]→b[j]?=some (gb T sz cs))(hd:cs=[]→b.set j .dead=b)(hl:cs.length=n*sz)(hsz:0<sz)(hm:m≠0)(hb:(n+m)*by'≤1099511627776)
  (hk:k (.sl b.length (n+m)) ⟨e,b.set j .dead++[.row T sz (cs++ys)],R⟩):AppT T sz by' (gs j n) m ys ⟨e,b,R⟩ k t:=by
 by_cases hn:n=0
 ·subst hn
  have:cs=[]:=List.eq_nil_of_length_eq_zero (by rw[hl];simp)
  subst this
  rw[hd rfl] at hk
  rw[zdU,zjS]
  refine⟨fun e=>absurd e hm,fun _=>⟨by simpa using hb,?_⟩⟩
  simpa using hk
 ·have hne:cs≠[]:=by
   intro e;subst e
   have:=Nat.mul_pos (Nat.pos_of_ne_zero hn) hsz
   simp at hl;omega
  rw[zaI hn,zni]
  exact vappO cs (by rw[hj hne,gb_ne hne]) hl hb hk
theorem zo9(L j n:Nat):SV.ok L (gs j n)=(decide (n=0)||decide (j<L)):=by
 unfold gs
 split
 ·rename_i h;simp[h,znq]
 ·rename_i h;simp[h,zpG]
theorem zpa(k b cap T sz:Nat)(cs:List Value):unslB k b cap (gb T sz cs)=gb T sz cs:=by unfold gb;split<;>rfl
theorem zq0(k b cap j n:Nat):unsl k b cap (gs j n)=if j=k then(if n=0 then .val (.slice none 0 0) else .val (.slice (some ⟨b,0,none⟩) n cap)) else gs j n:=by
 unfold gs
 by_cases h0:n=0
 ·simp[h0,unsl]
 ·by_cases hj:j=k<;>simp[h0,hj,unsl]
theorem zjc{b:List Blk}{j:Nat}(h:b[j]?=some .dead):b.set j .dead=b:=by
 apply List.ext_getElem?
 intro i
 rw[List.getElem?_set]
 split
 ·rename_i e;subst e;rw[if_pos (List.getElem?_eq_some_iff.1 h).1,h]
 ·rfl
attribute [go_sem] zdU zjb zrV zqZ zpa zq0 zrX zbv zqY zrW zo9 Bool.or_true
theorem W.u64{r:Int}(h:0≤r∧r≤18446744073709551615):W .u64 r r:=by
 unfold W;rw[IntKind.wrap_u64];omega
theorem W.mod64(r:Int):W .u64 r (r%18446744073709551616):=by
 unfold W;rw[IntKind.wrap_u64]
def Sl(R:RO)(v:Value)(xs:List Value):Prop :=
 ∃a cap,v = .slice a xs.length cap∧xs.length≤cap∧∀i u,xs[i]?=some u→∃ad,a=some ad∧R (ad.add i) u
theorem Sl.mono{R R':RO}{v:Value}{xs:List Value}(h:Sl R v xs)(hle:RO.le R R'):Sl R' v xs:=by
 obtain⟨a,cap,e,hc,h⟩:=h
 exact⟨a,cap,e,hc,fun i u hi=>by obtain⟨ad,e,hr⟩:=h i u hi;exact⟨ad,e,hle _ _ hr⟩⟩
def Ints(R:RO)(v:Value)(xs:List Int):Prop:=Sl R v (xs.map (.int .i64))
theorem Ints.mono{R R':RO}{v:Value}{xs:List Int}(h:Ints R v xs)(hle:RO.le R R'):Ints R' v xs:=Sl.mono h hle
theorem Ints.form{R:RO}{v:Value}{xs:List Int}(h:Ints R v xs):∃a cap,v = .slice a xs.length cap∧xs.length≤cap∧∀i (hi:i<xs.length),∃ad,a=some ad∧R (ad.add i) (.int .i64 xs[i]):=by
 obtain⟨a,cap,e,hc,h⟩:=h
 rw[List.length_map] at e hc
 exact⟨a,cap,e,hc,fun i hi=>h i _ (by simp[hi])⟩
def SlK(R:RO)(v:Value)(k:Nat)(xs:List (List Value)):Prop :=
 ∃a cap,v = .slice a xs.length cap∧xs.length≤cap∧∀i us,xs[i]?=some us→us.length=k∧∃ad,a=some ad∧∀j u,us[j]?=some u→R ((ad.add (i*k)).add j) u
theorem SlK.mono{R R':RO}{v:Value}{k:Nat}{xs:List (List Value)}(h:SlK R v k xs)(hle:RO.le R R'):SlK R' v k xs:=by
 obtain⟨a,cap,e,hc,h⟩:=h
 exact⟨a,cap,e,hc,fun i us hi=>by obtain⟨h1,ad,e,hr⟩:=h i us hi;exact⟨h1,ad,e,fun j u hj=>hle _ _ (hr j u hj)⟩⟩
theorem zdk(a:Addr)(i j:Nat):(a.add i).add j=a.add (i+j):=by
 unfold Addr.add
 by_cases hi:i=0<;>by_cases hj:j=0<;>simp[hi,hj,Nat.add_assoc]
theorem RowIn.sl{R:RO}{b cap:Nat}{cs:List Value}(h:RowIn R b cs)(hc:cs.length≤cap*1):Sl R (.slice (some ⟨b,0,none⟩) cs.length cap) cs :=
 ⟨_,cap,rfl,by omega,fun i u hi=>⟨_,rfl,by rw[Addr.add_lit,Nat.zero_add];exact h i u hi⟩⟩
theorem RowIn.ints{R:RO}{b cap:Nat}{xs:List Int}(h:RowIn R b (xs.map (.int .i64)))(hc:xs.length≤cap*1):Ints R (.slice (some ⟨b,0,none⟩) xs.length cap) xs:=by
 have:=h.sl (cap:=cap) (by simpa using hc)
 simpa[Ints] using this
theorem getElem?_flatten{α:Type}{k:Nat}:∀{xs:List (List α)},(∀us∈xs,us.length=k)→∀(i j:Nat) (us:List α),xs[i]?=some us→j<k→xs.flatten[i*k+j]?=us[j]?
 |[],_,i,j,us,h,_=>by simp at h
 |x::xs,hx,0,j,us,h,hj=>by
  simp only[List.getElem?_cons_zero,Option.some.injEq] at h
  subst h
  simp only[List.flatten_cons,Nat.zero_mul,Nat.zero_add]
  rw[List.getElem?_append_left (by rw[hx x (by simp)];exact hj)]
 |x::xs,hx,i+1,j,us,h,hj=>by
  simp only[List.getElem?_cons_succ] at h
  simp only[List.flatten_cons]
  have hl:=hx x (by simp)
  rw[List.getElem?_append_right (by rw[hl,Nat.add_mul];omega),hl]
  have:=getElem?_flatten (fun us hus=>hx us (by simp[hus])) i j us h hj
  rw[←this]
  congr 1
  rw[Nat.add_mul];omega
theorem zag{α:Type}{k:Nat}:∀{xs:List (List α)},(∀us∈xs,us.length=k)→xs.flatten.length=xs.length*k
 |[],_=>by simp
 |x::xs,hx=>by
  simp only[List.flatten_cons,List.length_append,List.length_cons,Nat.add_mul]
  rw[zag (fun us hus=>hx us (by simp[hus])),hx x (by simp)]
  omega
theorem RowIn.slK{R:RO}{b cap k:Nat}{xs:List (List Value)}(h:RowIn R b xs.flatten)(hk:∀us∈xs,us.length=k)(h0:0<k)(hc:xs.flatten.length≤cap*k):SlK R (.slice (some ⟨b,0,none⟩) xs.length cap) k xs:=by
 rw[zag hk] at hc
 refine⟨_,cap,rfl,Nat.le_of_mul_le_mul_right hc h0,fun i us hi=>⟨hk us (List.mem_of_getElem? hi),_,rfl,fun j u hj=>?_⟩⟩
 rw[zdk,Addr.add_lit,Nat.zero_add]
 refine h _ u ?_
 have hj':=(List.getElem?_eq_some_iff.1 hj).1
 rw[getElem?_flatten hk i j us hi (by rw[←hk us (List.mem_of_getElem? hi)];exact hj')]
 exact hj
theorem RowIn.mono{R R':RO}{b:Nat}{cs:List Value}(h:RowIn R b cs)(hle:RO.le R R'):RowIn R' b cs:=fun i v hi=>hle _ _ (h i v hi)
theorem RO.le_refl(R:RO):RO.le R R:=fun _ _ h=>h
theorem RO.le_trans{a b c:RO}(h:RO.le a b)(k:RO.le b c):RO.le a c:=fun x v hx=>k x v (h x v hx)
theorem Ints.nil(R:RO):Ints R (.slice none 0 0) []:=⟨none,0,rfl,Nat.le_refl _,by simp⟩
theorem zbw{a b:Int}(h:0≤a):a.tmod b=a%b:=Int.tmod_eq_emod_of_nonneg h
theorem zaN{a b:Int}(h:0≤a)(_hb:0≤b):a.tdiv b=a/b:=Int.tdiv_eq_ediv_of_nonneg h
theorem zd8(a b:Int)(hb:1≤b):(if a.tmod b<0 then a.tmod b+b else a.tmod b)=a%b:=by
 have h1:=Int.emod_nonneg a (show b≠0 by omega)
 have h2:=Int.emod_lt_of_pos a (show 0<b by omega)
 have h3:=Int.tmod_eq_emod (a:=a) (b:=b)
 have h4:(b.natAbs:Int)=b:=by omega
 split at h3
 ·rw[if_neg (by omega)];omega
 ·rename_i hn
  rw[h4] at h3
  by_cases h0:a%b=0
  ·exfalso
   exact hn (.inr (Int.dvd_of_emod_eq_zero h0))
  ·rw[if_pos (by omega)];omega
theorem zhd(a b:Int)(hb:1≤b) : -b<a.tmod b∧a.tmod b<b:=by
 have h1:=Int.emod_nonneg a (show b≠0 by omega)
 have h2:=Int.emod_lt_of_pos a (show 0<b by omega)
 have h3:=Int.tmod_eq_emod (a:=a) (b:=b)
 have h4:(b.natAbs:Int)=b:=by omega
 split at h3<;>omega
theorem zpb(a b:Int)(hb:1≤b):(if a.tmod b<0 then a.tdiv b-1 else a.tdiv b)=a/b:=by
 have h1:=Int.mul_tdiv_add_tmod a b
 have h2:=Int.mul_ediv_add_emod a b
 have h3:=zd8 a b hb
 split at h3
 ·rename_i h
  rw[if_pos h]
  have:b*(a.tdiv b-1)=b*(a/b):=by rw[Int.mul_sub];omega
  exact Int.eq_of_mul_eq_mul_left (by omega) this
 ·rename_i h
  rw[if_neg h]
  have:b*(a.tdiv b)=b*(a/b):=by omega
  exact Int.eq_of_mul_eq_mul_left (by omega) this
theorem zq1(a b:Int)(hb:1≤b):(0≤a→0≤a/b∧a/b≤a)∧(a<0→a≤a/b∧a/b<0):=by
 refine⟨fun h=>⟨Int.ediv_nonneg h (by omega),Int.ediv_le_self b h⟩,fun h=>⟨?_,Int.ediv_neg_of_neg_of_pos h (by omega)⟩⟩
 have h1:a*b≤a*1:=Int.mul_le_mul_of_nonpos_left (by omega) (by omega)
 exact(Int.le_ediv_iff_mul_le (by omega)).2 (by omega)
theorem znw(a b:Int)(hb:1≤b):(0≤a→0≤a.tdiv b∧a.tdiv b≤a)∧(a<0→a≤a.tdiv b∧a.tdiv b≤0):=by
 have h1:=zpb a b hb
 have h2:=zq1 a b hb
 have h3:0≤a→a.tmod b=a%b:=fun h=>zbw h
 have h4:=Int.emod_nonneg a (show b≠0 by omega)
 split at h1<;>constructor<;>intro h<;>omega
end Go.Proofs.YtdgndfabdmecmaaGreat.Vc
