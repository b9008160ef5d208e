/- A part of the proof. -/
import Derived.Test.YtafigbgagbolgaaGreatDoorE00
import Derived.RangeFuncIn
import Derived.RangeFuncLeaves
import Derived.RangeFuncRecord
import Derived.RangeFuncCalls
import Derived.RangeFuncSeq
import Derived.Sort.LoopGhostIn
import Derived.OrdersIn
import Derived.Test.YtafigbgagbolgaaGreatDoorProg
import Derived.Test.YtafigbgagbolgaaGreatDoorChecked
set_option linter.all false
set_option maxRecDepth 100000
open Go.IntKind(i64 u64)
open Go.Proofs.Tryz
namespace Go.Kw
open Go Go.Kc Go.Kt
structure En where
 k:Nat
 id:Nat
 wr:Bool
 tc:Bool
deriving DecidableEq
def En.ok(e:En):Prop:=(e.k=1\/e.k=2)/\e.id<16777216
def En.enc(e:En):Nat:=e.k+4*e.id+67108864*e.wr.toNat+134217728*e.tc.toNat
structure Rg where
 a:Int
 b:Int
 kind:Int
 file:Int
 idx:Int
 wr:Bool
deriving DecidableEq
def Rg.valid(x:Rg):Bool:=decide (0<=x.a/\x.a<x.b/\x.b<=65536)&&
 (if x.kind=1 then decide (x.file=0/\x.idx=0)else if x.kind=2 then decide (0<=x.file/\x.file<=1048576/\0<=x.idx/\x.idx<=2097152-(x.b-x.a))else false)
def e8:Int->bA Rg->Bool
 |_,[]=>true
 |at_,x::r=>x.valid&&decide (at_<=x.a)&&e8 x.b r
def fN(q:Rg->Bool):bA Rg->Nat
 |[]=>0
 |x::r=>if q x then 0 else fN q r+1
def eB(l:bA Rg)(x:Rg):bA Rg×Int:=
 if e8 0 l=false\/x.valid=false\/64<=l.length then(l,1)else
 let n:=fN (λy=>decide (x.a<y.b)) l
 match l[n]? with
 |some y=>if y.a<x.b then(l,4)else(l.take n++x::l.drop n,0)
 |none=>(l.take n++x::l.drop n,0)
def prt(x:Rg)(a b:Int):Rg:={x with idx:=if x.kind=2 then x.idx+(a-x.a)else x.idx,a:=a,b:=b}
def fF(x:Rg)(a b:Int):bA Rg:=if a<b then[prt x a b]else[]
def fq(a b:Int)(x:Rg):bA Rg:=if b<=a then fF x x.a x.b else fF x x.a (min x.b a)++fF x (max x.a b) x.b
def gX(l:bA Rg)(a b:Int):bA Rg:=if e8 0 l then l.flatMap (fq a b)else[]
def Rg.has(x:Rg)(p:Int):Bool:=decide (x.a<=p/\p<x.b)
def jP(l:bA Rg)(p:Int):bV Rg:=if e8 0 l then l[fN (λx=>x.has p) l]? else none
def dC(x:Rg)(p:Int):Int×Int:=if x.kind=2 then(x.file,x.idx+p-x.a)else(-1,p)
abbrev c2:=bA (Nat×En)
def dL:c2->Nat->bV En
 |[],_=>none
 |(q,e)::r,p=>if q=p then some e else dL r p
def eZ:c2->Nat->En->c2
 |[],p,e=>[(p,e)]
 |(q,f)::r,p,e=>if p<q then(p,e)::(q,f)::r else if p=q then(p,e)::r else(q,f)::eZ r p e
def hq(a b:Int)(p:Nat):Bool:=decide (a<=p/\(p:Int)<b)
structure Sp where
 dp:bA Rg
 cH:c2
def Sp.new:Sp:=⟨[],[]⟩
def Sp.map(s:Sp)(x:Rg):Sp×Int:=({s with dp:=(eB s.dp x).1},(eB s.dp x).2)
def Sp.cw(s:Sp)(p:Int):bV Rg:=jP s.dp p
def Sp.entry(s:Sp)(p:Int):bV En:=if 0<=p then dL s.cH p.toNat else none
def Sp.enter(s:Sp)(p id:Int)(k:Nat)(wr:Bool):Sp:=
 if(s.cw p).isSome/\0<=id/\id<16777216 then {s with cH:=eZ s.cH p.toNat ⟨k,id.toNat,wr,false⟩} else s
def Sp.ids(s:Sp)(a b:Int):bS:=(s.cH.filter λq=>hq a b q.1).map λq=>(q.2.id:Int)
def Sp.cut(s:Sp)(a b:Int):Sp×bS:=(⟨gX s.dp a b,s.cH.filter λq=> !hq a b q.1⟩,s.ids a b)
def Sp.cm(s:Sp)(p:Int):Sp:=
 match s.entry p with
 |some e=> {s with cH:=eZ s.cH p.toNat {e with tc:=true}}
 |none=>s
structure Vs where
 core:Cs
 procs:bA (Int×bV Sp)
structure cF where
 err:Int
 n:Int
 bH:bS
deriving DecidableEq
structure dx where
 kind:Int
 a:Int
 b:Int
 c:Int
 d:Int
deriving DecidableEq
def Vs.new(fr sl:Int)(bW:bS):Vs:=⟨Kc.new fr sl bW,[]⟩
def Vs.space(V:Vs)(pid:Int):bV Sp:=if 0<=pid then(V.procs[pid.toNat]?).bind Prod.snd else none
def Vs.group(V:Vs)(pid:Int):Int:=(V.procs.getD pid.toNat (0,none)).1
def Vs.fB(V:Vs)(pid:Int)(s:bV Sp):Vs:={V with procs:=V.procs.set pid.toNat (V.group pid,s)}
def ed(ids:bS)(S:Cs):Cs:=ids.foldl (λS id=>(S.bO id (-1)).1) S
def dD(ids:bS)(S:Cs):Cs:=ids.foldl (λS id=>(S.bO id 1).1) S
def Vs.exit(V:Vs)(pid:Int):Vs:=
 match V.space pid with
 |some s=> {V with core:=ed (s.ids 0 65536) V.core}.fB pid none
 |none=>V
structure Pr where
 g:Int
 size:Int
 live:Bool
deriving DecidableEq
def Vs.pr(V:Vs):bA Pr:=V.procs.map λp=>match p.2 with|some s=>⟨p.1,s.cH.length,true⟩|none=>⟨p.1,0,false⟩
def mX(ins:bS):Int->Int×Int->bA Pr->Int×Int
 |_,s,[]=>s
 |i,s,p::r=>mX ins (i+1) (if p.live=true/\s.2<p.size/\ins.contains p.g=true then(i,p.size)else s) r
def pick(l:bA Pr)(ins:bS):Int:=(mX ins 0 (-1,0) l).1
def wT(a:bS)(wh:bA Bool):Nat->Int
 |0=> -1
 |n+1=>let g:=a.getD n 0;if 0<=g/\wh.getD g.toNat false=true then g else wT a wh n
def kv(v:Int):bS->Nat
 |[]=>0
 |x::r=>if v=x then 0 else kv v r+1
def whole(a:bS)(t:Int)(wh:bA Bool):Int:=if kv t a<a.length then wT a wh (kv t a+1)else -1
def ij(ins:bS):Int->bA Pr->bS
 |_,[]=>[]
 |i,p::r=>if p.live=true/\ins.contains p.g=true then i::ij ins (i+1) r else ij ins (i+1) r
def ml(T:bA G)(l:bA Pr)(t:Int)(wh:bA Bool):bS:=
 let v:=pick l (ic T t)
 if v<0 then[]else
 let w:=whole (dk T (l.getD v.toNat ⟨0,0,false⟩).g) t wh
 if w<0 then[v]else ij (ic T w) 0 l
def Vs.de(V:Vs)(l:bS):Vs:=l.foldl Vs.exit V
def mY(S:Cs):bA Bool:=S.guards.map eD.whole
def fy(f:Cs->Int->Cs×Int×Int×Int)(pid:Int):Nat->Vs->cF->Vs×cF×bV Int
 |0,V,o=>(V,o,none)
 |n+1,V,o=>
  let r:=f V.core (V.group pid)
  let V1:Vs:={V with core:=r.1}
  if r.2.2.2=0 then(V1,o,some r.2.1)else
  if r.2.2.2≠12 then(V1, {o with err:=r.2.2.2},none)else
  let d:=ml V1.core.tree V1.pr r.2.2.1 (mY V1.core)
  let a:=V1.de d
  let b:cF:={o with bH:=o.bH++d}
  if d= []then(a, {b with err:=12},none)else
  if pid∈d then(a, {b with err:=13},none)else fy f pid n a b
def Vs.enter(V:Vs)(pid p id:Int)(k:Nat)(wr:Bool):Vs:=
 let V1:Vs:={V with core:=(V.core.bO id 1).1}
 match V1.space pid with
 |some s=>V1.fB pid (some (s.enter p id k wr))
 |none=>V1
def Vs.dR(V:Vs)(f:Cs->Int->Cs×Int×Int×Int)(pid:Int)(o:cF):Vs×cF×bV Int:=fy f pid (V.procs.length+1) V o
def Vs.bX(V:Vs)(pid id:Int)(o:cF):Vs×cF×bV Int:=
 V.dR (λS g=>let r:=S.bX id g;(r.1,id,r.2)) pid o
def Vs.there(V:Vs)(pid p:Int)(s:Sp)(x:Rg)(o:cF):Vs×cF×bV Int:=
 match s.entry p with
 |some e=>V.bX pid e.id o
 |none=>
  let r:=V.dR (λS g=>S.cA (dC x p) g) pid o
  match r.2.2 with
  |some id=>(r.1.enter pid p id 2 x.wr,r.2)
  |none=>r
def Vs.own(V:Vs)(pid p:Int)(s:Sp)(o:cF):Vs×cF×bV Int:=
 match s.entry p with
 |some e=>
  if(V.core.bt.get e.id).1.refs<=1 then V.bX pid e.id o else
  let r:=V.dR (λS g=>S.copy e.id g) pid o
  match r.2.2 with
  |some id=>let V1:=r.1.enter pid p id 1 true;({V1 with core:=(V1.core.bO e.id (-1)).1},r.2)
  |none=>r
 |none=>
  let r:=V.dR (λS g=>S.fresh g) pid o
  match r.2.2 with
  |some id=>(r.1.enter pid p id 1 true,r.2)
  |none=>r
def Vs.cm(V:Vs)(pid p:Int):Vs:=
 match V.space pid with
 |some s=>V.fB pid (some (s.cm p))
 |none=>V
def cF.zero:cF:=⟨0,0,[]⟩
def cF.bad(e:Int):cF:=⟨e,0,[]⟩
def Vs.load(V:Vs)(pid:Int)(s:Sp)(b:Int):Vs×cF:=
 let p:=b/16
 match s.cw p with
 |none=>(V,.bad 14)
 |some x=>
  if b<0 then(V,.bad 14)else
  if(s.entry p).isNone/\x.kind=1 then(V,.zero)else
  let r:=V.there pid p s x .zero
  match r.2.2 with
  |none=>(r.1,r.2.1)
  |some id=>
   let g:=r.1.core.get id (b%16)
   ({r.1 with core:=g.1}.cm pid p, {r.2.1 with n:=g.2.1})
def Vs.store(V:Vs)(pid:Int)(s:Sp)(b c:Int):Vs×cF:=
 let p:=b/16
 if c<0\/255<c then(V,.bad 1)else
 match s.cw p with
 |none=>(V,.bad 14)
 |some x=>
  if b<0 then(V,.bad 14)else
  if x.wr=false then(V,.bad 15)else
  let r:=if x.kind=2 then V.there pid p s x .zero else V.own pid p s .zero
  match r.2.2 with
  |none=>(r.1,r.2.1)
  |some id=>
   let g:=r.1.core.put id (b%16) (UInt8.ofNat c.toNat)
   ({r.1 with core:=g.1}.cm pid p,r.2.1)
def kQ(b c:Int):Prop:=(0<=b/\b<=65536)/\0<=c/\c<=65536
instance(b c:Int):Decidable (kQ b c):=by unfold kQ;exact inferInstance
def Vs.map(V:Vs)(pid:Int)(s:Sp)(x:Rg):Vs×cF:=(V.fB pid (some (s.map x).1),.bad (s.map x).2)
def Vs.call(V:Vs)(s:Sp)(o:dx):Vs×cF:=
 let pid:=o.a
 if o.kind=4 then(if V.core.live o.b then({V with procs:=V.procs.set pid.toNat (o.b,some s)},.zero)else(V,.bad 2))else
 if o.kind=5 then(if kQ o.b o.c then V.map pid s ⟨o.c,o.c+o.b,1,0,0,true⟩else(V,.bad 1))else
 if o.kind=6 then(if kQ o.b o.c then
  (if o.d<0\/(V.core.files.bW.length:Int)<=o.d\/nq V.core.files o.d<o.b then(V,.bad 1)else V.map pid s ⟨o.c,o.c+o.b,2,o.d,0,true⟩)else(V,.bad 1))else
 if o.kind=7 then(if kQ o.b o.c then
  (let r:=s.cut o.c (o.c+o.b);let V1:=V.fB pid (some r.1);({V1 with core:=ed r.2 V1.core},⟨0,r.2.length,[]⟩))else(V,.bad 1))else
 if o.kind=8 then V.load pid s o.b else
 if o.kind=9 then V.store pid s o.b o.c else
 if o.kind=10 then(if 64<=V.procs.length then(V,.bad 3)else
  ({core:=dD (s.ids 0 65536) V.core,procs:=V.procs++[(V.group pid,some s)]},⟨0,V.procs.length,[]⟩))else
 (V.exit pid,.zero)
def Vs.busy(V:Vs)(g:Int):Bool:=g !=0&&V.core.live g&&V.procs.any λp=>p.2.isSome&&p.1==g
def Vs.act(V:Vs)(o:dx):Vs×cF:=
 if o.kind=0 then(let r:=V.core.cn o.a;({V with core:=r.1},⟨r.2.2,max r.2.1 0,[]⟩))else
 if o.kind=1 then(if V.busy o.a then(V,.bad 4)else(let r:=V.core.remove o.a;({V with core:=r.1},.bad r.2)))else
 if o.kind=2 then(let r:=V.core.cB o.a o.b o.c;({V with core:=r.1},.bad r.2))else
 if o.kind=3 then(if V.core.live o.a=false then(V,.bad 2)else if 64<=V.procs.length then(V,.bad 3)else
  ({V with procs:=V.procs++[(o.a,some Sp.new)]},⟨0,V.procs.length,[]⟩))else
 if o.kind=12 then(let r:=V.core.dt o.a;({V with core:=r.1},⟨0,r.2,[]⟩))else
 if o.kind=13 then(let r:=V.core.shrink o.a o.b;({V with core:=r.1},⟨0,r.2,[]⟩))else
 if o.kind<0\/13<o.kind then(V,.bad 1)else
 match V.space o.a with
 |none=>(V,.bad 2)
 |some s=>V.call s o
end Go.Kw
namespace Go.Kc
open Go.Kt
def hQ(n:Nat)(f:Nat->Bool):Nat:=(List.range n).countP f
def qu(n:Nat)(f:Nat->Bool):hQ (n+1) f=hQ n f+(f n).toNat:=by
 unfold hQ;rw[List.range_succ,List.countP_append];cases h:f n<;>simp[Gb,h]
def AT{n:Nat}{f f':Nat->Bool}(h:∀i,i<n->f' i=f i):hQ n f'=hQ n f:=by
 induction n with
 |zero=>rfl
 |succ n a=>rw[qu,qu,a (λi b=>h i bu),h n bu]
def Ut{n k:Nat}{f f':Nat->Bool}(hk:k<n)(h:∀i,i<n->i≠k->f' i=f i):hQ n f'+(f k).toNat=hQ n f+(f' k).toNat:=by
 induction n with
 |zero=>omega
 |succ n b=>
  rw[qu,qu];by_cases e:k=n
  ·subst e;rw[AT (λi a=>h i bu bu)];omega
  ·have h1:=b bu (λi a=>h i bu);have h2:=h n bu (λx=>e x.symm);rw[h2];omega
def Uu{n:Nat}{f f':Nat->Bool}(h:∀i,i<n->f i=true->f' i=true):hQ n f<=hQ n f':=by
 induction n with
 |zero=>exact ek _
 |succ n a=>
  rw[qu,qu];have h1:=a (λi b=>h i bu);have h2:=h n bu;cases hf:f n with
  |false=>simp;omega
  |true=>rw[h2 hf];omega
def Uv{n:Nat}{f:Nat->Bool}:hQ n f=0↔∀i,i<n->f i=false:=by
 unfold hQ;rw[List.countP_eq_zero];simp
def nX:∀ {T:bA Bool} {i:Nat} {b c:Bool},T[i]?=some b->(T.set i c).count true+b.toNat=T.count true+c.toNat
 |[],i,b,c,h=>by simp at h
 |x::T,0,b,c,h=>by
  simp only[lH,fS]at h;subst h;cases x<;>cases c<;>simp[we]
 |x::T,i+1,b,c,h=>by
  have:=nX (T:=T) (i:=i) (b:=b) (c:=c) (by simpa using h);simp only[S6,we];omega
def AU{T:bA Bool}(h:(fT T).2.2=0):∃i:Nat,T[i]?=some false/\(∀j,j<i->T[j]?=some true)/\fT T=(T.set i true,(i:Int),0):=by
 unfold fT at h ⊢;cases hf:firstFree 0 T with
 |none=>rw[hf]at h;simp at h
 |some i=>
  obtain⟨_,h2,a⟩:=AH hf;exact⟨i,by simpa using h2,λj b=>by simpa using a j bu b,rfl⟩
def AV{T:bA Bool}(h:(fT T).2.2≠0):(∀b∈T,b=true)/\fT T=(T, -1,3):=by
 unfold fT at h ⊢;cases hf:firstFree 0 T with
 |none=>exact⟨Ha hf,rfl⟩
 |some i=>rw[hf]at h;simp at h
def Uw{T:bA Bool}{i:Nat}(h:T[i]?=some true):np T i=(T.set i false,0):=by
 have a:=(cZ.1 h).1;unfold np;rw[cD,dA,dJ,h];simp
def jR{g:Int}:fU g=true↔0<=g/\g<64:=by unfold fU;simp
def wU{g:Int}:gT g=true↔0<=g/\g<=top:=by unfold gT;simp
def r4:∀ {l:bS},nodupB l=true↔l.Nodup
 |[]=>by simp[nodupB]
 |x::l=>by
  unfold nodupB;rw[dy,r4,rH];simp
def mZ{l:bS}{n:Int}:jj l n=true↔(∀g∈l,0<=g/\g<64)/\l.Nodup/\0<=n/\n<=top:=by
 unfold jj;rw[dy,dy,r4,wU,fQ];simp only[jR,and_assoc]
def AW(C:bA eP)(g:Int)(f:eP->eP):(iI C g f).length=C.length:=by simp[iI]
def nx(n:Int):∀(l:bS) (C:bA eP),(dG C l n).length=C.length
 |[],_=>rfl
 |g::l,C=>by
  show(dG (iI C g _) l n).length=_;rw[nx n l,AW]
def AX{C:bA eP}{g h:Int}(f:eP->eP)(c:C.length=64)(a:fU g=true)(b:fU h=true):(iI C g f).getD h.toNat ⟨0,0⟩=if h=g then f (C.getD g.toNat ⟨0,0⟩)else C.getD h.toNat ⟨0,0⟩:=by
 rw[jR]at a b;unfold iI;simp only[dJ];by_cases e:h=g
 ·subst e;rw[bK rfl,jd bu];rfl
 ·rw[bJ e,iE bu]
def qv(n:Int):∀(l:bS) {C:bA eP} {h:Int},C.length=64->(∀g∈l,0<=g/\g<64)->l.Nodup->fU h=true->
  (dG C l n).getD h.toNat ⟨0,0⟩=if h∈l then {C.getD h.toNat ⟨0,0⟩with use:=(C.getD h.toNat ⟨0,0⟩).use+n} else C.getD h.toNat ⟨0,0⟩
 |[],_,_,_,_,_,_=>by simp[dG]
 |g::l,C,h,c,hl,hn,d=>by
  have f:fU g=true:=jR.2 (hl g (by simp));have b:=rH.1 hn;show(dG (iI C g _) l n).getD h.toNat _=_;rw[qv n l (by rw[AW];exact c) (λx hx=>hl x (by simp[hx])) b.2 d,AX _ c f d];by_cases e:h=g
  ·subst e;rw[bJ b.1,bK rfl,bK (by simp)]
  ·by_cases a:h∈l;·rw[bK a,bJ e,bK (by simp[a])]
   ·rw[bJ a,bJ e,bJ (by simp[e,a])]
def po{n:Int}{l:bS}{C:bA eP}{h:Int}(b:C.length=64)(hl:∀g∈l,0<=g/\g<64)(hn:l.Nodup):cT (dG C l n) h=cT C h+if h∈l then n else 0:=by
 unfold cT hy;cases a:fU h with
 |true=>
  simp only[g3];rw[qv n l b hl hn a];split<;>simp
 |false=>
  have:h∉l:=λhm=>by rw[jR.2 (hl h hm)]at a;cases a
  rw[bJ this];simp
def ui{n:Int}{l:bS}{C:bA eP}{h:Int}(a:C.length=64)(hl:∀g∈l,0<=g/\g<64)(hn:l.Nodup):g8 (dG C l n) h=g8 C h:=by
 unfold g8 hy;cases b:fU h with
 |true=>
  simp only[g3];rw[qv n l a hl hn b];split<;>simp
 |false=>simp
def r5{C:bA eP}{g:Int}(a:0<=g/\g<64):C.getD g.toNat ⟨0,0⟩=hy C g:=by
 unfold hy;rw[jR.2 a];rfl
def hz.of{C:bA eP}(h:hz C)(g:Int):(0<=(hy C g).use/\(hy C g).use<=top)/\0<=(hy C g).cB/\(hy C g).cB<=top:=by
 unfold hy;split
 ·next b=>
  rw[jR]at b;have a:g.toNat<C.length:=by rw[h.len];omega
  rw[dJ,dO a];exact h.ok _ (oq a)
 ·exact⟨⟨g2 _,bN⟩,g2 _,bN⟩
def hz.new:hz mg:=⟨rfl,λx hx=>by
 rw[List.eq_of_mem_replicate hx];exact⟨⟨bN,bN⟩,bN,bN⟩⟩
def hz.mk'{C:bA eP}(a:C.length=64)(h:∀g:Int,0<=g->g<64->(0<=cT C g/\cT C g<=top)/\0<=g8 C g/\g8 C g<=top):hz C:=by
 refine⟨a,λx hx=>?_⟩;obtain⟨i,b,rfl⟩:=je.1 hx;have:=h i bu bu;unfold cT g8 hy at this;rw[jR.2 ⟨bu,bu⟩]at this;simpa[b]using this
def uj{C:bA eP}{l:bS}{n:Int}(h:(df C l n).2.2=0):jj l n=true/\df C l n=(dG C l n, -1,0)/\∀g∈l,0<n->cT C g+n<=g8 C g:=by
 unfold df at h ⊢;cases hr:jj l n with
 |false=>rw[hr]at h;simp at h
 |true=>
  rw[hr]at h;simp only[F2,gR]at h ⊢;cases hf:l.find? (λg=>decide (0<n)&&decide ((C.getD g.toNat ⟨0,0⟩).cB<(C.getD g.toNat ⟨0,0⟩).use+n))with
  |some g=>rw[hf]at h;simp at h
  |none=>
   refine⟨trivial,rfl,λg a c=>?_⟩;have:=pZ.1 hf g a;have b:=(mZ.1 hr).1 g a;rw[r5 b]at this;simp only[dy,gw,not_and]at this;unfold cT g8;have:=this c;omega
def uk{C:bA eP}{l:bS}{n:Int}(hr:jj l n=true)(h:(df C l n).2.2≠0):∃g∈l,df C l n=(C,g,22)/\0<n/\g8 C g<cT C g+n:=by
 unfold df at h ⊢;rw[hr]at h ⊢;simp only[F2,gR]at h ⊢;cases hf:l.find? (λg=>decide (0<n)&&decide ((C.getD g.toNat ⟨0,0⟩).cB<(C.getD g.toNat ⟨0,0⟩).use+n))with
 |none=>rw[hf]at h;simp at h
 |some g=>
  have a:=vT hf;have hp:=Ge hf;have b:=(mZ.1 hr).1 g a;rw[r5 b]at hp;simp only[dy,gw]at hp;exact⟨g,a,rfl,hp.1,hp.2⟩
def r6{C:bA eP}{l:bS}{n:Int}(hr:jj l n=true)(h:∀g∈l,n<=cT C g):gj C l n=(dG C l (-n),0):=by
 unfold gj;rw[hr];simp only[F2,gR];have:l.find? (λg=>decide ((C.getD g.toNat ⟨0,0⟩).use<n))=none:=by
  rw[pZ];intro g a;rw[r5 ((mZ.1 hr).1 g a)];have:=h g a;unfold cT at this;simp;omega
 rw[this]
def Hu{C:bA eP}{l:bS}{n:Int}(hr:jj l n=true)(h:∃g∈l,cT C g<n):gj C l n=(C,2):=by
 unfold gj;rw[hr];simp only[F2,gR];obtain⟨g,a,hl⟩:=h;cases hf:l.find? (λg=>decide ((C.getD g.toNat ⟨0,0⟩).use<n))with
 |some x=>rfl
 |none=>
  have:=pZ.1 hf g a;rw[r5 ((mZ.1 hr).1 g a)]at this;unfold cT at hl;simp at this;omega
def hz.try{C:bA eP}(h:hz C)(l:bS)(n:Int):hz (df C l n).1:=by
 by_cases a:(df C l n).2.2=0
 ·obtain⟨hr,he,hle⟩:=uj a;rw[he];obtain⟨h1,h2,c,d⟩:=mZ.1 hr;refine hz.mk' (by rw[nx];exact h.len) (λg e b=>?_);rw[po h.len h1 h2,ui h.len h1 h2];have ho:=h.of g;unfold cT g8 at*
  split
  ·next hm=>
   rcases Int.lt_or_le 0 n with hp|hp
   ·have:=hle g hm hp;omega
   ·have:n=0:=by omega
    subst this;omega
  ·omega
 ·cases hr:jj l n with
  |false=>
   have:df C l n=(C, -1,1):=by unfold df;rw[hr];rfl
   rw[this];exact h
  |true=>
   obtain⟨g,_,he,_⟩:=uk hr a;rw[he];exact h
def hz.du{C:bA eP}(h:hz C)(l:bS)(n:Int):hz (gj C l n).1:=by
 cases hr:jj l n with
 |false=>
  have:gj C l n=(C,1):=by unfold gj;rw[hr];rfl
  rw[this];exact h
 |true=>
  by_cases hb:∃g∈l,cT C g<n;·rw[Hu hr hb];exact h
  ·have a:∀g∈l,n<=cT C g:=λg b=>Int.not_lt.1 (λc=>hb ⟨g,b,c⟩);rw[r6 hr a];obtain⟨h1,h2,e,f⟩:=mZ.1 hr;refine hz.mk' (by rw[nx];exact h.len) (λg b d=>?_);rw[po h.len h1 h2,ui h.len h1 h2];have ho:=h.of g;unfold cT g8 at*
   split;·next hm=>have:=a g hm;omega
   ·omega
def hz.kx{C:bA eP}(h:hz C)(g n:Int):hz (j6 C g n).1:=by
 unfold j6;split
 ·next c=>
  rw[dy]at c;refine hz.mk' (by rw[AW];exact h.len) (λx hx d=>?_);have b:fU x=true:=jR.2 ⟨hx,d⟩;unfold cT g8 hy;rw[b,bK rfl,AX _ h.len c.1 b];have ho:=h.of x;have a:=h.of g;have e:=wU.1 c.2;unfold hy at ho a;rw[b,bK rfl]at ho;rw[c.1,bK rfl]at a;split;·exact⟨a.1,e⟩
  ·exact ho
 ·exact h
def Ux{C:bA eP}(b:C.length=64)(g n x:Int):cT (j6 C g n).1 x=cT C x:=by
 unfold j6;split
 ·next a=>
  rw[dy]at a;unfold cT hy;cases hx:fU x with
  |false=>simp
  |true=>
   simp only[g3];rw[AX _ b a.1 hx];split;·next e=>subst e;rfl
   ·rfl
 ·rfl
end Go.Kc
namespace Go.Kc
open Go Go.Kt Go.Sp
def qS{l:bA G}(h:WF l){g:Int}(hl:ds l g=true):(∀x∈dk l g,0<=x/\x<64)/\(dk l g).Nodup/\(0:Int)∈dk l g/\g∈dk l g:=by
 obtain⟨n,rfl,x,hx,i⟩:=iW.1 hl;have a:=(cZ.1 hx).1;have c:=h.fk;have e:dk l (n:Int)=(chain l n).map Int.ofNat:=by unfold dk;rw[bK hl,dA]
 rw[e];refine⟨λy d=>?_,?_,fA.2 ⟨0,Tc h n a,rfl⟩,?_⟩
 ·obtain⟨z,f,rfl⟩:=fA.1 d;have:=(zp h n a).1 z f;show(0:Int)<=(z:Int)/\(z:Int)<64;omega
 ·rw[og,kL];exact(og.1 (Tb h n a)).imp (λb e=>b (Int.ofNat.inj e))
 ·obtain⟨r,hr⟩:=Gs l n;rw[hr];exact fA.2 ⟨n,by simp,rfl⟩
def um{l:bA G}(h:WF l){g:Int}(hl:ds l g=true){n:Int}(hn:0<=n/\n<=top):jj (dk l g) n=true:=by
 have:=qS h hl;exact mZ.2 ⟨this.1,this.2.1,hn⟩
structure hI(T:TS):Prop where
 next:0<=T.next
 ids:∀id p,T.pg id=some p->0<=id/\id<T.next
 spot:∀pl a id,T.c0 (pl,a)=some id↔∃p,T.pg id=some p/\p.place=pl/\p.at_=a/\pl≠0
 file:∀kf ki id,T.files (kf,ki)=some id↔∃p,T.pg id=some p/\p.kf=kf/\p.ki=ki/\0<=kf
 pl:∀id p,T.pg id=some p->(0<=p.place/\p.place<=2/\0<=p.at_/\(p.place=0->p.at_=0))/\0<=p.refs
def hI.zero:hI TS.zero:=⟨g2 _,λ_ _ h=>(by cases h),λ_ _ _=>⟨λh=>(by cases h),λ⟨_,h,_⟩=>by cases h⟩,λ_ _ _=>⟨λh=>(by cases h),λ⟨_,h,_⟩=>by cases h⟩,λ_ _ h=>by cases h⟩
variable{T:TS}
def hI.one(h:hI T){id c:Int}{p p':Pg}(h1:T.pg id=some p)(h2:T.pg c=some p')(d:p.place≠0)(e:p'.place=p.place)(f:p'.at_=p.at_):c=id:=by
 have a:=(h.spot p.place p.at_ id).2 ⟨p,h1,rfl,rfl,d⟩;have b:=(h.spot p.place p.at_ c).2 ⟨p',h2,e,f,d⟩;rw[a]at b;exact(cR b).symm
def Pg.to(p:Pg)(pl a:Int):Pg:={p with place:=pl,at_:=a}
def TS.dS(T:TS)(id:Int)(p:Pg)(pl a:Int):TS:=
 {pg:=cL T.pg id (some (p.to pl a)),files:=T.files,c0:=if pl≠0 then cL (cL T.c0 (p.place,p.at_) none) (pl,a) (some id)else cL T.c0 (p.place,p.at_) none,next:=T.next}
def j7{κ α:Type}[DecidableEq κ](f:κ->bV α)(k:κ)(v:bV α):cL f k v k=v:=by unfold cL;rw[bK rfl]
def db{κ α:Type}[DecidableEq κ](f:κ->bV α){k x:κ}(v:bV α)(h:x≠k):cL f k v x=f x:=by unfold cL;rw[bJ h]
def kR{κ α:Type}[DecidableEq κ]{f:κ->bV α}{k x:κ}{v y:α}(h:cL f k (some v) x=some y):(x=k/\y=v)\/(x≠k/\f x=some y):=by
 unfold cL at h;split at h;·next e=>exact .inl ⟨e,(cR h).symm⟩
 ·next e=>exact .inr ⟨e,h⟩
def hI.put_eq(h:hI T){id:Int}{p:Pg}(hp:T.pg id=some p){pl a:Int}(j:0<=pl/\pl<=2/\0<=a/\(pl=0->a=0))(c:∀q b,T.pg b=some q->q.place=pl->q.at_=a->pl≠0->b=id):
  T.put id pl a=(T.dS id p pl a,0):=by
 unfold TS.put;rw[hp];dsimp only;rw[cD,bJ];·rfl
 ·rintro⟨h1,h2⟩;unfold TS.at_ at h1 h2;cases d:T.c0 (pl,a)with
  |none=>rw[d]at h1;simp at h1
  |some b=>
   rw[d]at h2;obtain⟨q,i,e,f,g⟩:=(h.spot pl a b).1 d;exact h2 (c q b i e f g)
def hI.dS(h:hI T){id:Int}{p:Pg}(hp:T.pg id=some p){pl a:Int}(o:0<=pl/\pl<=2/\0<=a/\(pl=0->a=0))(m:∀q n,T.pg n=some q->q.place=pl->q.at_=a->pl≠0->n=id):
  hI (T.dS id p pl a):=by
 have j:∀x,(T.dS id p pl a).pg x=if x=id then some (p.to pl a)else T.pg x:=λx=>rfl
 refine⟨h.next,λx q b=>?_,λc a' x=>?_,λkf ki x=>?_,λx q b=>?_⟩
 ·rcases kR b with⟨rfl,rfl⟩|⟨_,b⟩
  ·exact h.ids _ _ hp
  ·exact h.ids _ _ b
 ·have r:(T.dS id p pl a).c0 (c,a')=some x↔((pl≠0/\c=pl/\a'=a)/\x=id)\/(¬ (pl≠0/\c=pl/\a'=a)/\¬ (c=p.place/\a'=p.at_)/\T.c0 (c,a')=some x):=by
   unfold TS.dS;dsimp only;by_cases k:pl=0
   ·rw[bJ (by simpa using k)];unfold cL;by_cases e:(c,a')=(p.place,p.at_)
    ·rw[bK e];have e':c=p.place/\a'=p.at_:=by simpa using e
     simp[k,e']
    ·rw[bJ e];have e':¬ (c=p.place/\a'=p.at_):=by simpa using e
     simp[k,e']
   ·rw[bK k];unfold cL;by_cases d:(c,a')=(pl,a)
    ·rw[bK d];have l:c=pl/\a'=a:=by simpa using d
     simp[k,l,eq_comm]
    ·rw[bJ d];have l:¬ (c=pl/\a'=a):=by simpa using d
     by_cases e:(c,a')=(p.place,p.at_)
     ·rw[bK e];have e':c=p.place/\a'=p.at_:=by simpa using e
      refine⟨λg=>(by cases g),?_⟩;rintro(⟨g,_⟩|⟨_,g,_⟩);·exact absurd g.2 l
      ·exact absurd e' g
     ·rw[bJ e];have e':¬ (c=p.place/\a'=p.at_):=by simpa using e
      have:¬ (pl≠0/\c=pl/\a'=a):=λg=>l g.2;simp[this,e']
  rw[r];constructor
  ·rintro(⟨⟨k,rfl,rfl⟩,rfl⟩|⟨h1,h2,s⟩);·exact⟨_,by rw[j,bK rfl],rfl,rfl,k⟩
   ·obtain⟨q,b,f,d,i⟩:=(h.spot _ _ _).1 s;have hx:x≠id:=by
     rintro rfl;rw[hp]at b;have:=cR b;subst this;exact h2 ⟨f.symm,d.symm⟩
    exact⟨q,by rw[j,bJ hx];exact b,f,d,i⟩
  ·rintro⟨q,b,f,d,i⟩;rw[j]at b;by_cases hx:x=id
   ·rw[bK hx]at b;have:=cR b;subst this;have f:pl=c:=f;have d:a=a':=d;exact .inl ⟨⟨by rw[f];exact i,f.symm,d.symm⟩,hx⟩
   ·rw[bJ hx]at b;refine .inr ⟨λg=>hx (m q x b (by rw[f,g.2.1]) (by rw[d,g.2.2]) g.1),λg=>hx ?_,(h.spot _ _ _).2 ⟨q,b,f,d,i⟩⟩;exact h.one hp b (by rw[<- g.1];exact i) (by rw[f,g.1]) (by rw[d,g.2])
 ·show T.files (kf,ki)=some x↔_;rw[h.file];constructor
  ·rintro⟨q,b,f,d,i⟩;by_cases hx:x=id
   ·subst hx;rw[hp]at b;have:=cR b;subst this;exact⟨p.to pl a,by rw[j,bK rfl],f,d,i⟩
   ·exact⟨q,by rw[j,bJ hx];exact b,f,d,i⟩
  ·rintro⟨q,b,f,d,i⟩;rw[j]at b;by_cases hx:x=id
   ·rw[bK hx]at b;have:=cR b;subst this;subst hx;exact⟨p,hp,f,d,i⟩
   ·rw[bJ hx]at b;exact⟨q,b,f,d,i⟩
 ·rcases kR b with⟨rfl,rfl⟩|⟨_,b⟩
  ·exact⟨o,(h.pl _ _ hp).2⟩
  ·exact h.pl _ _ b
def hI.set(h:hI T){id:Int}{p q:Pg}(hp:T.pg id=some p)(h1:q.place=p.place)(h2:q.at_=p.at_)(d:q.kf=p.kf)(e:q.ki=p.ki)(f:0<=q.refs):hI (T.cJ id q):=by
 have c:∀x,(T.cJ id q).pg x=if x=id then some q else T.pg x:=λx=>rfl
 have key:∀ {x:Int} {R:Pg->Prop},(R p↔R q)->((∃r,T.pg x=some r/\R r)↔∃r,(T.cJ id q).pg x=some r/\R r):=by
  intro x R b;rw[c];by_cases hx:x=id
  ·subst hx;rw[bK rfl,hp];constructor;·rintro⟨r,hr,h⟩;have:=cR hr;subst this;exact⟨q,rfl,b.1 h⟩
   ·rintro⟨r,hr,h⟩;have:=cR hr;subst this;exact⟨p,rfl,b.2 h⟩
  ·rw[bJ hx]
 refine⟨h.next,λx r hr=>?_,λpl a x=>?_,λkf ki x=>?_,λx r hr=>?_⟩
 ·rcases kR hr with⟨rfl,rfl⟩|⟨_,hr⟩
  ·exact h.ids _ _ hp
  ·exact h.ids _ _ hr
 ·exact(h.spot pl a x).trans (key (R:=λr=>r.place=pl/\r.at_=a/\pl≠0) (by rw[h1,h2]))
 ·exact(h.file kf ki x).trans (key (R:=λr=>r.kf=kf/\r.ki=ki/\0<=kf) (by rw[d,e]))
 ·rcases kR hr with⟨rfl,rfl⟩|⟨_,hr⟩
  ·have:=(h.pl _ _ hp).1;rw[h1,h2];exact⟨this,f⟩
  ·exact h.pl _ _ hr
def m0(T:TS)(pl:Int)(is:Pg->Bool):Nat->Bool:=λi=>match T.pg (i:Int)with
 |some p=>p.place==pl&&is p
 |none=>false
def jn(T:TS)(pl:Int)(is:Pg->Bool):Nat:=hQ T.next.toNat (m0 T pl is)
def below(tree:bA G)(g:Int):Pg->Bool:=λp=>(dk tree p.owner).contains g
def pB(o:bV Pg)(pl:Int)(is:Pg->Bool):Bool:=match o with
 |some p=>p.place==pl&&is p
 |none=>false
def Hv(h:hI T){T':TS}{id:Int}{p:Pg}(hp:T.pg id=some p)(hn:T'.next=T.next)(ho:∀x,x≠id->T'.pg x=T.pg x)(pl:Int)(is:Pg->Bool):
  jn T' pl is+(pB (some p) pl is).toNat=jn T pl is+(pB (T'.pg id) pl is).toNat:=by
 have eS:=h.ids _ _ hp;have:=Ut (n:=T.next.toNat) (k:=id.toNat) (f:=m0 T pl is) (f':=m0 T' pl is) bu (λi d c=>by
  unfold m0;rw[ho (i:Int) bu])
 have e:(id.toNat:Int)=id:=by omega
 have a:m0 T pl is id.toNat=pB (some p) pl is:=by unfold m0 pB;rw[e,hp]
 have b:m0 T' pl is id.toNat=pB (T'.pg id) pl is:=by unfold m0 pB;rw[e]
 rw[a,b]at this;unfold jn;rw[hn];exact this
def uo{T':TS}{pl:Int}{is a:Pg->Bool}(hn:T'.next=T.next)(h:∀x,pB (T'.pg x) pl a=pB (T.pg x) pl is):jn T' pl a=jn T pl is:=by
 unfold jn;rw[hn];exact AT (λi _=>h i)
structure ik(T:TS)(tree:bA G)(s:eY)(pl:Int):Prop where
 fk:s.bY.length<=1024
 len:s.c9.length=16*s.bY.length
 used:hz s.used
 taken:∀a:Nat,s.bY[a]?=some true↔∃id p,T.pg id=some p/\p.place=pl/\p.at_=a
 use:∀g,0<=g->g<64->cT s.used g=jn T pl (below tree g)
 all:s.bY.count true=jn T pl (λ_=>true)
variable{tree:bA G}{s:eY}
def Uy{n:Nat}{X:bA UInt8}(h:X.length=16*n)(i:Int):(By.cl n X i).1.length=16*n:=By.AS h _
def ik.du(v:hI T)(hw:WF tree){pl:Int}(h:ik T tree s pl)(B:pl≠0){id:Int}{p:Pg}(hp:T.pg id=some p)(h1:p.place=pl)(ho:ds tree p.owner=true){T':TS}(hn:T'.next=T.next)(i:∀x,x≠id->T'.pg x=T.pg x)(eS:∀q,T'.pg id=some q->q.place≠pl):ik T' tree (s.du p.at_ (dk tree p.owner)) pl:=by
 obtain⟨G,F⟩:=v.pl _ _ hp;obtain⟨a,w⟩:∃a:Nat,p.at_=a:=⟨p.at_.toNat,bu⟩
 have o:s.bY[a]?=some true:=(h.taken a).2 ⟨id,p,hp,h1,w⟩;have y:=qS hw ho;have A:∀is:Pg->Bool,pB (T'.pg id) pl is=false:=by
  intro is;cases d:T'.pg id with
  |none=>rfl
  |some q=>unfold pB;simp[eS q d]
 have k:∀is:Pg->Bool,jn T' pl is+(is p).toNat=jn T pl is:=by
  intro is;have:=Hv v hp hn i pl is;rw[A is]at this;simpa[pB,h1]using this
 have u:gj s.used (dk tree p.owner) 1=(dG s.used (dk tree p.owner) (-1),0):=by
  refine r6 (um hw ho ⟨bN,bN⟩) (λg r=>?_);have l:=y.1 g r;rw[h.use g l.1 l.2];have:=k (below tree g);have hb:below tree g p=true:=kZ.2 r;rw[hb]at this;simp at this;omega
 have t:np s.bY p.at_=(s.bY.set a false,0):=by rw[w];exact Uw o
 have m:=hz.du h.used (dk tree p.owner) 1;rw[u]at m;unfold eY.du;rw[u,t];refine⟨by simpa using h.fk,?_,m,λb=>?_,λg r l=>?_,?_⟩
 ·show(By.cl s.bY.length s.c9 p.at_).1.length=16*(s.bY.set a false).length;rw[dW];exact Uy h.len _
 ·show(s.bY.set a false)[b]?=some true↔_;have z:=(cZ.1 o).1;by_cases e:a=b
  ·subst e;rw[jd z];refine⟨λE=>(by cases E),?_⟩;rintro⟨f,q,d,j,n⟩;by_cases hx:f=id;·subst hx;exact absurd j (eS q d)
   ·rw[i _ hx]at d;exact absurd (v.one hp d (by rw[h1];exact B) (by rw[j,h1]) (by rw[n,w])) hx
  ·rw[iE e,h.taken b];constructor
   ·rintro⟨f,q,d,j,n⟩;have hx:f≠id:=by
     rintro rfl;rw[hp]at d;have:=cR d;subst this;omega
    exact⟨f,q,by rw[i _ hx];exact d,j,n⟩
   ·rintro⟨f,q,d,j,n⟩;by_cases hx:f=id;·subst hx;exact absurd j (eS q d)
    ·rw[i _ hx]at d;exact⟨f,q,d,j,n⟩
 ·show cT (dG s.used (dk tree p.owner) (-1)) g=_;rw[po h.used.len y.1 y.2.1,h.use g r l];have:=k (below tree g);by_cases hm:g∈dk tree p.owner
  ·have hb:below tree g p=true:=kZ.2 hm;rw[hb]at this;rw[bK hm];simp at this;omega
  ·have hb:below tree g p=false:=by unfold below;simpa using hm
   rw[hb]at this;rw[bJ hm];simp at this;omega
 ·show(s.bY.set a false).count true=_;have C:=nX (c:=false) o;have D:=k (λ_=>true);have H:=h.all;simp at C D;omega
def ik.pq(z:hI T)(hw:WF tree){pl:Int}(h:ik T tree s pl){id:Int}{p q:Pg}(hp:T.pg id=some p)(h1:p.place≠pl){T':TS}(hn:T'.next=T.next)(f:∀x,x≠id->T'.pg x=T.pg x)(eS:T'.pg id=some q)(v:q.place=pl)(ho:ds tree q.owner=true){a:Nat}(w:q.at_=a)(o:s.bY[a]?=some false)(n:∀g∈dk tree q.owner,cT s.used g+1<=g8 s.used g){X:bA UInt8}(A:X.length=16*s.bY.length):ik T' tree ⟨s.bY.set a true,X,dG s.used (dk tree q.owner) 1⟩ pl:=by
 have i:=qS hw ho;have j:∀is:Pg->Bool,jn T' pl is=jn T pl is+(is q).toNat:=by
  intro is;have:=Hv z hp hn f pl is;rw[eS]at this;have hb:(p.place==pl)=false:=by simpa using h1
  simpa[pB,hb,v]using this
 have t:=(cZ.1 o).1;refine⟨by simpa using h.fk,by simpa using A,?_,λb=>?_,λg u l=>?_,?_⟩
 ·refine hz.mk' (by rw[nx];exact h.used.len) (λg u l=>?_);rw[po h.used.len i.1 i.2.1,ui h.used.len i.1 i.2.1];have ho:=h.used.of g;unfold cT g8 at*
  split;·next hm=>have:=n g hm;omega
  ·omega
 ·show(s.bY.set a true)[b]?=some true↔_;by_cases e:a=b
  ·subst e;rw[jd t];exact⟨λ_=>⟨id,q,eS,v,w⟩,λ_=>rfl⟩
  ·rw[iE e,h.taken b];constructor
   ·rintro⟨d,r,hr,k,m⟩;have hx:d≠id:=by
     rintro rfl;rw[hp]at hr;have:=cR hr;subst this;exact h1 k
    exact⟨d,r,by rw[f _ hx];exact hr,k,m⟩
   ·rintro⟨d,r,hr,k,m⟩;by_cases hx:d=id
    ·subst hx;rw[eS]at hr;have:=cR hr;subst this;omega
    ·rw[f _ hx]at hr;exact⟨d,r,hr,k,m⟩
 ·show cT (dG s.used (dk tree q.owner) 1) g=_;rw[po h.used.len i.1 i.2.1,h.use g u l,j];by_cases hm:g∈dk tree q.owner
  ·have hb:below tree g q=true:=kZ.2 hm;rw[hb,bK hm];simp
  ·have hb:below tree g q=false:=by unfold below;simpa using hm
   rw[hb,bJ hm];simp
 ·show(s.bY.set a true).count true=_;have y:=nX (c:=true) o;have B:=h.all;rw[j];simp at y ⊢;omega
def ik.other{pl:Int}(h:ik T tree s pl){T':TS}(hn:T'.next=T.next)(n:∀x,(T'.pg x=T.pg x)\/((∀p,T.pg x=some p->p.place≠pl)/\∀p,T'.pg x=some p->p.place≠pl)
   \/(∃p q,T.pg x=some p/\T'.pg x=some q/\q.place=p.place/\q.at_=p.at_/\q.owner=p.owner)):ik T' tree s pl:=by
 have key:∀(x:Int) (is:Pg->Bool),(∀p q:Pg,p.owner=q.owner->is p=is q)->pB (T'.pg x) pl is=pB (T.pg x) pl is:=by
  intro x is m;rcases n x with e|⟨h1,h2⟩|⟨p,q,h1,h2,c,i,k⟩
  ·rw[e]
  ·have a:pB (T.pg x) pl is=false:=by
    cases j:T.pg x with
    |none=>rfl
    |some p=>unfold pB;simp[h1 p j]
   have b:pB (T'.pg x) pl is=false:=by
    cases j:T'.pg x with
    |none=>rfl
    |some p=>unfold pB;simp[h2 p j]
   rw[a,b]
  ·rw[h1,h2];unfold pB;dsimp only;rw[c,m q p k]
 have o:∀(x a:Int),(∃p,T'.pg x=some p/\p.place=pl/\p.at_=a)↔∃p,T.pg x=some p/\p.place=pl/\p.at_=a:=by
  intro x a;rcases n x with e|⟨h1,h2⟩|⟨p,q,h1,h2,c,i,k⟩
  ·rw[e]
  ·exact⟨λ⟨p,hp,e,_⟩=>absurd e (h2 p hp),λ⟨p,hp,e,_⟩=>absurd e (h1 p hp)⟩
  ·rw[h1,h2];constructor;·rintro⟨r,hr,d,f⟩;have:=cR hr;subst this;exact⟨p,rfl,by rw[<- c,d],by rw[<- i,f]⟩
   ·rintro⟨r,hr,d,f⟩;have:=cR hr;subst this;exact⟨q,rfl,by rw[c,d],by rw[i,f]⟩
 refine⟨h.fk,h.len,h.used,λa=>?_,λg t l=>?_,?_⟩
 ·rw[h.taken a];exact⟨λ⟨x,hx⟩=>⟨x,(o x a).2 hx⟩,λ⟨x,hx⟩=>⟨x,(o x a).1 hx⟩⟩
 ·rw[h.use g t l,uo hn (λx=>key x _ (λp q e=>by unfold below;rw[e]))]
 ·rw[h.all,uo hn (λx=>key x _ (λ_ _ _=>rfl))]
end Go.Kc
namespace Go.Kc
open Go Go.Kt Go.Sp
structure Inv0(S:Cs):Prop where
 wf:WF S.tree
 gl:S.guards.length=S.tree.length
 cH:hI S.bt
 own:∀id p,S.bt.pg id=some p->S.live p.owner=true
 fr:ik S.bt S.tree S.fr 1
 sl:ik S.bt S.tree S.sl 2
 ep:Good S.bP
 gen:∀id g,(∃e∈S.bP,e.id=id/\e.group=g)↔∃p,S.bt.pg id=some p/\p.place=1/\p.owner=g
 log:S.log.length=64
 ky:∀id p,S.bt.pg id=some p->0<=p.kf->ec S.files (p.kf,p.ki)=true/\p.place≠2
 qT:∀k t,S.files.bt k=some t->t.length=16
 ids:S.bt.next<=16777216
structure Inv(S:Cs):Prop extends Inv0 S where
 anon:∀id p,S.bt.pg id=some p->p.kf<0->p.place≠0
variable{R:bA dw}
def Hw(G:Good R){id x g:Int}:(∃e∈(jl R id).1,e.id=x/\e.group=g)↔x≠id/\∃e∈R,e.id=x/\e.group=g:=by
 unfold jl;split
 ·constructor
  ·rintro⟨e,he,rfl,rfl⟩;rw[gG]at he;exact⟨by simpa using he.2,e,he.1,rfl,rfl⟩
  ·rintro⟨hx,e,he,rfl,rfl⟩;exact⟨e,gG.2 ⟨he,by simpa using hx⟩,rfl,rfl⟩
 ·next hf=>
  have hf:fc R id=none:=by simpa using hf
  have hn:=(r2 G.cX).1 hf;constructor;·rintro⟨e,he,rfl,rfl⟩;exact⟨hn e he,e,he,rfl,rfl⟩
  ·rintro⟨_,h⟩;exact h
def Uz{id:Int}(h:(fc R id).isSome=true):(jl R id).1.length<R.length:=by
 unfold jl;rw[bK h];obtain⟨e,he⟩:=kX.1 h;have hm:e∈R:=vT he;have hp:e.id=id:=by simpa using Ge he
 rcases hN (R.filter λe=>e.id !=id).length R.length with h1|h1;·exact h1
 ·exfalso;have h2:(R.filter λe=>e.id !=id).length=R.length:=Nat.le_antisymm (l2 _ _) h1;have a:=List.length_filter_eq_length_iff.1 h2 e hm;simp[hp]at a
def UA{id x g:Int}:(∃e∈(hj R id).1,e.id=x/\e.group=g)↔∃e∈R,e.id=x/\e.group=g:=by
 unfold hj;split
 ·constructor
  ·rintro⟨e,he,rfl,rfl⟩;obtain⟨y,a,rfl⟩:=fA.1 he;refine⟨y,a,?_,?_⟩<;>split<;>rfl
  ·rintro⟨y,a,rfl,rfl⟩;refine⟨_,fA.2 ⟨y,a,rfl⟩,?_,?_⟩<;>split<;>rfl
 ·exact l6
def UB(G:Good R){id g:Int}{dZ:Bool}(hb:¬ ih id g)(hf:fc R id=none){x o:Int}:(∃e∈(jM R id g dZ).1,e.id=x/\e.group=o)↔(x=id/\o=g)\/∃e∈R,e.id=x/\e.group=o:=by
 unfold jM;rw[bJ hb,hf];simp only[S5,l4,gR];have hm:=λy=>wS (R:=R) (x:=⟨id,g,if dZ then 1 else 0⟩) (y:=y) ((r2 G.cX).1 hf);constructor
 ·rintro⟨e,he,rfl,rfl⟩;rcases(hm e).1 he with rfl|he;·exact .inl ⟨rfl,rfl⟩
  ·exact .inr ⟨e,he,rfl,rfl⟩
 ·rintro(⟨rfl,rfl⟩|⟨e,he,rfl,rfl⟩);·exact⟨_,(hm _).2 (.inl rfl),rfl,rfl⟩
  ·exact⟨e,(hm _).2 (.inr he),rfl,rfl⟩
def UC(G:Good R){id:Int}:(fc R id).isSome=true↔∃e∈R,e.id=id:=by
 constructor
 ·intro h;obtain⟨e,he⟩:=kX.1 h;have:=(kP G.cX).1 he;exact⟨e,this.1,this.2⟩
 ·rintro⟨e,he,eS⟩;rw[(kP G.cX).2 ⟨he,eS⟩];rfl
def UD{g:Int}{c:Int->Int->Int×Int}(f:∀a b,(c a b).1=a){x o:Int}:(∃e∈(iA R g c).1,e.id=x/\e.group=o)↔∃e∈R,e.id=x/\e.group=o:=by
 have h:∀e:dw,(jN g c e).group=e.group:=λe=>by unfold jN;split<;>simp[f]
 constructor
 ·rintro⟨e,he,rfl,rfl⟩;obtain⟨y,d,rfl⟩:=fA.1 he;exact⟨y,d,(r3 g c y).symm,(h y).symm⟩
 ·rintro⟨y,d,rfl,rfl⟩;exact⟨_,fA.2 ⟨y,d,rfl⟩,r3 g c y,h y⟩
def UE{g:Int}{a:Int->Int->Int×Int}:(iA R g a).1.length=R.length:=by unfold iA;simp
variable{S:Cs}
def Inv.new(cC cV:Int)(bW:bS):Inv (new cC cV bW):=by
 have b:∀n pl,ik TS.zero Kt.new (gy n) pl:=by
  intro n pl;have c:∀is:Pg->Bool,jn TS.zero pl is=0:=λis=>rfl;refine⟨by show(List.replicate _ false).length<=1024;simp;omega,by show(List.replicate _ (0:UInt8)).length=16*(List.replicate _ false).length;simp,hz.new,λa=>?_,λg d h1=>?_,?_⟩
  ·constructor
   ·intro h;have h:(List.replicate (min (max n 0).toNat 1024) false)[a]?=some true:=h;rw[om]at h;split at h<;>simp at h
   ·rintro⟨_,_,h,_⟩;cases h
  ·rw[c];show cT (List.replicate 64 ⟨0,top⟩) g=0;unfold cT hy;split;·rw[dJ,om,eK];rfl
   ·rfl
  ·rw[c];show(List.replicate (min (max n 0).toNat 1024) false).count true=0;rw[List.count_replicate];rfl
 exact⟨⟨Td,rfl,hI.zero,λ_ _ h=>(by cases h),b _ _,b _ _,Good.nil,λid g=>⟨λ⟨_,h,_⟩=>(by cases h),λ⟨_,h,_⟩=>by cases h⟩,mE,λ_ _ h=>(by cases h),λ_ _ h=>(by cases h),(by show(0:Int)<=16777216;decide)⟩,λ_ _ h=>by cases h⟩
def Inv.pv(h:Inv S){R:bA dw}(a:Good R)(hm:∀x o,(∃e∈R,e.id=x/\e.group=o)↔∃e∈S.bP,e.id=x/\e.group=o):Inv {S with bP:=R} :=
 {h with ep:=a,gen:=λid g=>(hm id g).trans (h.gen id g)}
def Inv.file(h:Inv S){k:Int×Int}{t:bA UInt8}:Inv {S with files:=(ns S.files k t).1} :=by
 unfold ns;split;·exact h
 ·split;·exact h
  ·next a=>
   have a:t.length=16:=by simpa using a
   refine {h with ky:=λid p hp=>?_,qT:=λx u hu=>?_};·exact h.ky id p hp
   ·have hu:(if x=k then some t else S.files.bt x)=some u:=hu;split at hu;·rw[<- cR hu];exact a
    ·exact h.qT x u hu
def Inv.cJ(h:Inv S){id:Int}{p q:Pg}(hp:S.bt.pg id=some p)(h1:q.place=p.place)(h2:q.at_=p.at_)(c:q.kf=p.kf)(d:q.ki=p.ki)(i:0<=q.refs)(b:q.owner=p.owner):Inv {S with bt:=S.bt.cJ id q} :=by
 have j:∀x,((S.bt.cJ id q).pg x=S.bt.pg x)\/((∀p,S.bt.pg x=some p->p.place≠1)/\∀p,(S.bt.cJ id q).pg x=some p->p.place≠1)\/(∃p a,S.bt.pg x=some p/\(S.bt.cJ id q).pg x=some a/\a.place=p.place/\a.at_=p.at_/\a.owner=p.owner):=by
  intro x;by_cases hx:x=id;·subst hx;exact .inr (.inr ⟨p,q,hp,j7 _ _ _,h1,h2,b⟩)
  ·exact .inl (db _ _ hx)
 have f:∀x,((S.bt.cJ id q).pg x=S.bt.pg x)\/((∀p,S.bt.pg x=some p->p.place≠2)/\∀p,(S.bt.cJ id q).pg x=some p->p.place≠2)\/(∃p a,S.bt.pg x=some p/\(S.bt.cJ id q).pg x=some a/\a.place=p.place/\a.at_=p.at_/\a.owner=p.owner):=by
  intro x;by_cases hx:x=id;·subst hx;exact .inr (.inr ⟨p,q,hp,j7 _ _ _,h1,h2,b⟩)
  ·exact .inl (db _ _ hx)
 refine {h with cH:=h.cH.set hp h1 h2 c d i,own:=λx r hr=>?_,fr:=h.fr.other rfl j,sl:=h.sl.other rfl f,gen:=λx g=>?_,ky:=λx r hr=>?_,anon:=λx r hr=>?_}
 ·rcases kR hr with⟨rfl,rfl⟩|⟨_,hr⟩
  ·show S.live r.owner=true;rw[b];exact h.own _ _ hp
  ·exact h.own _ _ hr
 ·show(∃e∈S.bP,e.id=x/\e.group=g)↔∃r,cL S.bt.pg id (some q) x=some r/\r.place=1/\r.owner=g;rw[h.gen];by_cases hx:x=id
  ·subst hx;rw[j7,hp];constructor;·rintro⟨r,hr,e⟩;have:=cR hr;subst this;exact⟨q,rfl,by rw[h1,b];exact e⟩
   ·rintro⟨r,hr,e⟩;have:=cR hr;subst this;exact⟨p,rfl,by rw[<- h1,<- b];exact e⟩
  ·rw[db _ _ hx]
 ·rcases kR hr with⟨rfl,rfl⟩|⟨_,hr⟩
  ·rw[h1,c,d];exact h.ky _ _ hp
  ·exact h.ky _ _ hr
 ·rcases kR hr with⟨rfl,rfl⟩|⟨_,hr⟩
  ·rw[h1,c];exact h.anon _ _ hp
  ·exact h.anon _ _ hr
def Inv.mark(h:Inv S)(id:Int)(d:Bool):Inv {S with bt:=(S.bt.mark id d).1} :=by
 unfold TS.mark;cases hp:S.bt.pg id with
 |none=>exact h
 |some p=>exact h.cJ hp rfl rfl rfl rfl (h.cH.pl _ _ hp).2 rfl
def Inv.clean(h:Inv S)(id:Int)(p:Pg):Inv (S.clean id p):=by
 unfold Cs.clean;split;·exact(h.file (k:=(p.kf,p.ki)) (t:=S.text p)).mark id false
 ·exact h
def Inv.cm(h:Inv S)(id:Int):Inv {S with bP:=(hj S.bP id).1} :=h.pv (h.ep.cm id) (λ_ _=>UA)
def wV:∀(l:bS) {R:bA dw},Good R->Good (gW R l).1/\(∀x o,(∃e∈(gW R l).1,e.id=x/\e.group=o)↔∃e∈R,e.id=x/\e.group=o)/\(gW R l).1.length=R.length
 |[],_,h=>⟨h,λ_ _=>l6,rfl⟩
 |g::l,R,h=>by
  have h1:=wV l (h.dt g);refine⟨h1.1,λx o=>(h1.2.1 x o).trans (UD (λa b=>rfl)),?_⟩;show(gW (iA R g jO).1 l).1.length=_;rw[h1.2.2,UE]
def Inv.dt(h:Inv S)(t:Int):Inv (S.dt t).1:=by
 have:=wV (ic S.tree t) h.ep;exact h.pv this.1 this.2.1
def Inv0.bL(_:Inv0 S){id:Int}{p:Pg}(hp:S.bt.pg id=some p):S.bt.get id=(p,0):=by unfold TS.get;rw[hp]
def Hx(l:bS)(g:Int):(dM l g).1.length=l.length:=by unfold dM;split<;>simp
def jB(T:TS)(id:Int)(p:Pg)(pl a x:Int):(T.dS id p pl a).pg x=if x=id then some (p.to pl a)else T.pg x:=rfl
def Inv0.ny(h:Inv0 S){id:Int}{p:Pg}(hp:S.bt.pg id=some p):S.bt.put id 0 0=(S.bt.dS id p 0 0,0):=
 h.cH.put_eq hp ⟨bN,bN,bN,λ_=>rfl⟩ (λ_ _ _ _ _ h=>absurd rfl h)
def Inv0.lO(h:Inv0 S){id:Int}{p:Pg}(hp:S.bt.pg id=some p)(h1:p.place=1){lg:bS}(j:lg.length=64){K:Int->bV Int}:
  Inv0 {S with bt:=S.bt.dS id p 0 0,fr:=S.fr.du p.at_ (dk S.tree p.owner),bP:=(jl S.bP id).1,log:=lg,kept:=K} :=by
 have k:∀q f,S.bt.pg f=some q->q.place=0->q.at_=0->(0:Int)≠0->f=id:=λ_ _ _ _ _ h=>absurd rfl h;have l:=h.cH.dS hp (pl:=0) (a:=0) ⟨bN,bN,bN,λ_=>rfl⟩ k;have d:∀x,x≠id->(S.bt.dS id p 0 0).pg x=S.bt.pg x:=λx hx=>db _ _ hx;refine⟨h.wf,h.gl,l,λx r hr=>?_,h.fr.du h.cH h.wf bN hp h1 (h.own _ _ hp) rfl d (λq b=>?_),h.sl.other rfl (λx=>?_),h.ep.drop id,λx g=>?_,j,λx r hr=>?_,h.qT,h.ids⟩
 ·rcases kR hr with⟨rfl,rfl⟩|⟨_,hr⟩
  ·show S.live p.owner=true;exact h.own _ _ hp
  ·exact h.own _ _ hr
 ·rw[jB,bK rfl]at b;rw[<- cR b];show(0:Int)≠1;decide
 ·by_cases hx:x=id
  ·subst hx;refine .inr (.inl ⟨λq b=>?_,λq b=>?_⟩);·rw[hp]at b;rw[<- cR b,h1];decide
   ·rw[jB,bK rfl]at b;rw[<- cR b];show(0:Int)≠2;decide
  ·exact .inl (d x hx)
 ·show(∃e∈(jl S.bP id).1,e.id=x/\e.group=g)↔∃r,(S.bt.dS id p 0 0).pg x=some r/\r.place=1/\r.owner=g;rw[Hw h.ep,h.gen,jB];by_cases hx:x=id
  ·rw[bK hx];refine⟨λc=>absurd hx c.1,?_⟩;rintro⟨r,hr,e,_⟩;rw[<- cR hr]at e;have e:(0:Int)=1:=e;omega
  ·rw[bJ hx];exact⟨λc=>c.2,λc=>⟨hx,c⟩⟩
 ·rcases kR hr with⟨rfl,rfl⟩|⟨_,hr⟩
  ·exact λi=>⟨(h.ky _ _ hp i).1,by show(0:Int)≠2;decide⟩
  ·exact h.ky _ _ hr
def Inv0.q0(h:Inv0 S){id:Int}{p:Pg}(hp:S.bt.pg id=some p)(h1:p.place=2):
  Inv0 {S with bt:=S.bt.dS id p 0 0,sl:=S.sl.du p.at_ (dk S.tree p.owner)} :=by
 have i:∀q d,S.bt.pg d=some q->q.place=0->q.at_=0->(0:Int)≠0->d=id:=λ_ _ _ _ _ h=>absurd rfl h;have j:=h.cH.dS hp (pl:=0) (a:=0) ⟨bN,bN,bN,λ_=>rfl⟩ i;have c:∀x,x≠id->(S.bt.dS id p 0 0).pg x=S.bt.pg x:=λx hx=>db _ _ hx;refine⟨h.wf,h.gl,j,λx r hr=>?_,h.fr.other rfl (λx=>?_),h.sl.du h.cH h.wf bN hp h1 (h.own _ _ hp) rfl c (λq b=>?_),h.ep,λx g=>?_,h.log,λx r hr=>?_,h.qT,h.ids⟩
 ·rcases kR hr with⟨rfl,rfl⟩|⟨_,hr⟩
  ·show S.live p.owner=true;exact h.own _ _ hp
  ·exact h.own _ _ hr
 ·by_cases hx:x=id
  ·subst hx;refine .inr (.inl ⟨λq b=>?_,λq b=>?_⟩);·rw[hp]at b;rw[<- cR b,h1];decide
   ·rw[jB,bK rfl]at b;rw[<- cR b];show(0:Int)≠1;decide
  ·exact .inl (c x hx)
 ·rw[jB,bK rfl]at b;rw[<- cR b];show(0:Int)≠2;decide
 ·show(∃e∈S.bP,e.id=x/\e.group=g)↔∃r,(S.bt.dS id p 0 0).pg x=some r/\r.place=1/\r.owner=g;rw[h.gen,jB];by_cases hx:x=id
  ·subst hx;rw[bK rfl,hp];constructor
   ·rintro⟨r,hr,e,_⟩;rw[<- cR hr,h1]at e;cases e
   ·rintro⟨r,hr,e,_⟩;rw[<- cR hr]at e;have e:(0:Int)=1:=e;omega
  ·rw[bJ hx]
 ·rcases kR hr with⟨rfl,rfl⟩|⟨_,hr⟩
  ·exact λf=>⟨(h.ky _ _ hp f).1,by show(0:Int)≠2;decide⟩
  ·exact h.ky _ _ hr
def Inv.q1(h:Inv S){id:Int}{p:Pg}(hp:S.bt.pg id=some p)(h1:p.place=1)(hk:0<=p.kf):Inv ({S with bt:=(S.bt.put id 0 0).1}.leave id p (S.chain p.owner)):=by
 rw[h.ny hp];refine⟨h.lO hp h1 (by rw[Hx];exact h.log),λx r hr a=>?_⟩;rcases kR hr with⟨rfl,rfl⟩|⟨_,hr⟩
 ·exact absurd hk (by have:p.kf<0:=a;omega)
 ·exact h.anon _ _ hr a
def Inv.fo(h:Inv S){id:Int}{p:Pg}(hp:S.bt.pg id=some p)(h1:p.place=1)(hk:p.kf<0)(hw:(S.fo id p (S.chain p.owner)).2=true):Inv ((S.fo id p (S.chain p.owner)).1.leave id p (S.chain p.owner)):=by
 unfold Cs.fo at hw ⊢;split at hw;·cases hw
 next f=>
 rw[bJ f];dsimp only at hw ⊢;split at hw;·cases hw
 next hf=>
 rw[bJ hf];dsimp only;have hf:(fT S.sl.bY).2.2=0:=by simpa using hf
 obtain⟨a,m,_,he⟩:=AU hf;rw[he];dsimp only;have z:=(cZ.1 m).1;have c:=h.own _ _ hp;have B:=qS h.wf c;have i:∀g∈dk S.tree p.owner,cT S.sl.used g+1<=g8 S.sl.used g:=by
  intro g n;have:=(not_exists.1 (λb=>f (tA.2 b))) g;simp only[gw,not_and,Int.not_le]at this;have:=this n;omega
 have o:df S.sl.used (S.chain p.owner) 1=(dG S.sl.used (dk S.tree p.owner) 1, -1,0):=by
  by_cases s:(df S.sl.used (S.chain p.owner) 1).2.2=0;·exact(uj s).2.1
  ·obtain⟨g,n,_,_,A⟩:=uk (um h.wf c ⟨bN,bN⟩) s;have:=i g n;omega
 rw[o];have l:∀q d,S.bt.pg d=some q->q.place=2->q.at_=(a:Int)->(2:Int)≠0->d=id:=by
  intro q d k u v _;have:=(h.sl.taken a).2 ⟨d,q,k,u,v⟩;rw[m]at this;cases this
 rw[h.cH.put_eq hp ⟨bN,bN,bu,λb=>absurd b bN⟩ l];have w:=h.cH.dS hp (pl:=2) (a:=a) ⟨bN,bN,bu,λb=>absurd b bN⟩ l;have j:∀x,x≠id->(S.bt.dS id p 2 a).pg x=S.bt.pg x:=λx hx=>db _ _ hx;have y:(By.wr (S.sl.bY.set a true).length S.sl.c9 a (S.text p)).1.length=16*S.sl.bY.length:=by
  rw[dW];exact By.AS h.sl.len _
 unfold Cs.leave;dsimp only;refine⟨⟨h.wf,h.gl,w,λx r hr=>?_,h.fr.du h.cH h.wf bN hp h1 (h.own _ _ hp) rfl j (λq k=>?_),?_,h.ep.drop id,λx g=>?_,?_,λx r hr=>?_,h.qT,h.ids⟩,λx r hr=>?_⟩
 ·rcases kR hr with⟨rfl,rfl⟩|⟨_,hr⟩
  ·show S.live p.owner=true;exact h.own _ _ hp
  ·exact h.own _ _ hr
 ·rw[jB,bK rfl]at k;rw[<- cR k];show(2:Int)≠1;decide
 ·exact h.sl.pq (T':=S.bt.dS id p 2 a) h.cH h.wf hp (by rw[h1];decide) rfl j (q:=p.to 2 a) (by rw[jB,bK rfl]) rfl c rfl m i y
 ·show(∃e∈(jl S.bP id).1,e.id=x/\e.group=g)↔∃r,(S.bt.dS id p 2 a).pg x=some r/\r.place=1/\r.owner=g;rw[Hw h.ep,h.gen,jB];by_cases hx:x=id
  ·rw[bK hx];refine⟨λb=>absurd hx b.1,?_⟩;rintro⟨r,hr,e,_⟩;rw[<- cR hr]at e;have e:(2:Int)=1:=e;omega
  ·rw[bJ hx];exact⟨λb=>b.2,λb=>⟨hx,b⟩⟩
 ·show(dM S.log p.owner).1.length=64;rw[Hx];exact h.log
 ·rcases kR hr with⟨rfl,rfl⟩|⟨_,hr⟩
  ·exact λt=>absurd hk (by have:0<=p.kf:=t;omega)
  ·exact h.ky _ _ hr
 ·rcases kR hr with⟨rfl,rfl⟩|⟨_,hr⟩
  ·exact λ_=>by show(2:Int)≠0;decide
  ·exact h.anon _ _ hr
def r7{id:Int}(ho:(S.out id).2=false):(S.out id).1=S:=by
 unfold Cs.out at ho ⊢;dsimp only at ho ⊢;split at ho;·cases ho
 ·next a=>
  rw[bJ a];split at ho;·cases ho
  ·next h2=>rw[bJ h2]
def AY(id:Int)(p q:Pg)(b:S.bt.pg id=some q):∃a,(S.clean id p).bt.pg id=some a/\a.place=q.place/\a.at_=q.at_/\a.kf=q.kf/\a.ki=q.ki/\a.owner=q.owner/\a.refs=q.refs:=by
 unfold Cs.clean;split
 ·show ∃a,(S.bt.mark id false).1.pg id=some a/\_;unfold TS.mark;rw[b];exact⟨_,j7 _ _ _,rfl,rfl,rfl,rfl,rfl,rfl⟩
 ·exact⟨q,b,rfl,rfl,rfl,rfl,rfl,rfl⟩
def wW(id:Int)(p:Pg):(S.clean id p).tree=S.tree/\(S.clean id p).fr=S.fr/\(S.clean id p).sl=S.sl/\(S.clean id p).bP=S.bP/\(S.clean id p).log=S.log/\(S.clean id p).kept=S.kept/\(S.clean id p).guards=S.guards:=by
 unfold Cs.clean;split<;>exact⟨rfl,rfl,rfl,rfl,rfl,rfl,rfl⟩
def Inv.out(h:Inv S){id:Int}{p:Pg}(hp:S.bt.pg id=some p)(h1:p.place=1):Inv (S.out id).1:=by
 cases ho:(S.out id).2 with
 |false=>rw[r7 ho];exact h
 |true=>
  unfold Cs.out at ho ⊢;rw[h.bL hp]at ho ⊢;dsimp only at ho ⊢;by_cases hk:0<=p.kf
  ·rw[bK hk];dsimp only;have a:=h.clean id p;obtain⟨q,g,c,d,e,o,f,r⟩:=AY id p p hp;obtain⟨b,i,j,k,l,m,n⟩:=wW (S:=S) id p;have:=a.q1 g (by rw[c,h1]) (by rw[e];exact hk);have el:∀S':Cs,S'.leave id q ((S.clean id p).chain q.owner)=S'.leave id p (S.chain p.owner):=by
    intro S';unfold Cs.leave Cs.chain;rw[d,f,b]
   rw[el]at this;exact this
  ·rw[bJ hk]at ho ⊢;split at ho;·next hw=>rw[bK hw];exact h.fo hp h1 bu hw
   ·cases ho
def UF{id:Int}(ho:(S.out id).2=true):(S.out id).1.bP=(jl S.bP id).1:=by
 unfold Cs.out at ho ⊢;dsimp only at ho ⊢;split
 ·show(jl (S.clean id _).bP id).1=_;rw[(wW id _).2.2.2.1]
 ·next a=>
  rw[bJ a]at ho;split
  ·show(jl (S.fo id _ _).1.bP id).1=_;congr 1;unfold Cs.fo;split;·rfl
   ·dsimp only;split<;>rfl
  ·next h2=>rw[bJ h2]at ho;cases ho
def wX{R:bA dw}{gs:bS}{id:Int}(h:id∈jm R gs):∃e∈R,e.id=id/\e.group∈gs:=by
 unfold jm at h;obtain⟨a,_,h⟩:=y3.1 h;obtain⟨e,he,rfl⟩:=fA.1 h;rw[gG,dy]at he;exact⟨e,he.1,rfl,by simpa using he.2.1⟩
def r8{held:Int->Bool}:∀(l:bS) {S:Cs},(pass held l S).2=false->(pass held l S).1=S
 |[],_,_=>rfl
 |id::l,S,h=>by
  unfold pass at h ⊢;split;·next a=>rw[bK a]at h;exact r8 l h
  ·next a=>
   rw[bJ a]at h;dsimp only at h ⊢;split;·next ho=>rw[bK ho]at h;cases h
   ·next ho=>
    rw[bJ ho]at h;have ho:(S.out id).2=false:=by simpa using ho
    rw[r7 ho]at h ⊢;exact r8 l h
def wY{held:Int->Bool}:∀(l:bS) {S:Cs},(pass held l S).2=true->∃id,id∈l/\held (S.bt.get id).1.owner=false/\(S.out id).2=true/\(pass held l S).1=(S.out id).1
 |[],_,h=>by cases h
 |id::l,S,h=>by
  unfold pass at h ⊢;split
  ·next a=>
   rw[bK a]at h;obtain⟨x,h1,h2⟩:=wY l h;exact⟨x,fY _ h1,h2⟩
  ·next a=>
   rw[bJ a]at h;dsimp only at h ⊢;split;·next ho=>exact⟨id,fE ..,by simpa using a,ho,rfl⟩
   ·next ho=>
    rw[bJ ho]at h;have ho:(S.out id).2=false:=by simpa using ho
    rw[r7 ho]at h ⊢;obtain⟨x,h1,h2⟩:=wY l h;exact⟨x,fY _ h1,h2⟩
def AZ{t:Int}{gs:bS}{all:Bool}(h:(S.cM t gs all).2=false):(S.cM t gs all).1=S:=by
 unfold Cs.cM at h ⊢;split;·rfl
 ·next hl=>
  rw[bJ hl]at h;dsimp only at h ⊢;split;·next hr=>rw[bK hr]at h;cases h
  ·next hr=>
   rw[bJ hr]at h;have hr:=r8 _ (by simpa using hr);split
   ·next a=>
    rw[bK a]at h;rw[r8 _ h,hr]
   ·exact hr
def A0{t:Int}{gs:bS}{all:Bool}(h:(S.cM t gs all).2=true):S.live t=true/\∃id,id∈jm S.bP gs/\hA (S.held t eD.min) (S.bt.get id).1.owner=false/\(S.out id).2=true/\(S.cM t gs all).1=(S.out id).1:=by
 unfold Cs.cM at h ⊢;split;·next hl=>rw[bK hl]at h;cases h
 ·next hl=>
  rw[bJ hl]at h;refine⟨by simpa using hl,?_⟩;dsimp only at h ⊢;split
  ·next hr=>
   obtain⟨id,h1,h2,a,b⟩:=wY _ hr;rw[FT]at h2;exact⟨id,h1,h2.1,a,b⟩
  ·next hr=>
   rw[bJ hr]at h;have hr:=r8 _ (by simpa using hr);split
   ·next c=>
    rw[bK c]at h;rw[hr]at h ⊢;obtain⟨id,h1,h2,a,b⟩:=wY _ h;exact⟨id,h1,h2,a,b⟩
   ·next c=>rw[bJ c]at h;cases h
def Inv.jS(h:Inv S){gs:bS}{id:Int}(hm:id∈jm S.bP gs):∃p,S.bt.pg id=some p/\p.place=1/\p.owner∈gs:=by
 obtain⟨e,he,a,b⟩:=wX hm;obtain⟨p,hp,h1,h2⟩:=(h.gen id e.group).1 ⟨e,he,a,rfl⟩;exact⟨p,hp,h1,by rw[h2];exact b⟩
def Inv.cM(h:Inv S)(t:Int)(gs:bS)(all:Bool):Inv (S.cM t gs all).1:=by
 cases hr:(S.cM t gs all).2 with
 |false=>rw[AZ hr];exact h
 |true=>
  obtain⟨_,id,h1,_,_,b⟩:=A0 hr;obtain⟨p,hp,a,_⟩:=h.jS h1;rw[b];exact h.out hp a
def Inv.c1(h:Inv S)(t:Int):Inv (S.c1 t).1:=h.cM t _ _
def Hy(h:Inv S){t:Int}{gs:bS}{all:Bool}(hr:(S.cM t gs all).2=true):(S.cM t gs all).1.bP.length<S.bP.length:=by
 obtain⟨_,id,h1,_,b,c⟩:=A0 hr;obtain⟨e,he,a,_⟩:=wX h1;rw[c,UF b];exact Uz ((UC h.ep).2 ⟨e,he,a⟩)
def Inv.da{t:Int}{gs:bS}:∀(n:Nat) {S:Cs},Inv S->Inv (da t gs n S).1
 |0,_,h=>h
 |n+1,_,h=>Inv.da n (h.cM t gs false)
def Inv.cr{t:Int}:∀(l:bA (Int×Int)) {S:Cs},Inv S->Inv (cr t l S).1
 |[],_,h=>h
 |(_,k)::l,_,h=>Inv.cr l (Inv.da k.toNat h)
def Inv.dB{t:Int}:∀(n:Nat) {S:Cs},Inv S->Inv (dB t n S).1
 |0,_,h=>h
 |n+1,S,h=>by
  unfold Kc.dB;dsimp only;split;·exact Inv.dB n (h.c1 t)
  ·exact h.c1 t
def Inv.shrink(h:Inv S)(t n:Int):Inv (S.shrink t n).1:=by
 unfold Cs.shrink;split;·exact h
 ·exact Inv.dB _ (Inv.cr _ h)
end Go.Kc
namespace Go.Kc
open Go Go.Kt Go.Sp
variable{S:Cs}
inductive eG:Cs->Cs->Prop
 |refl (S:Cs):eG S S
 |step {S S':Cs} {id:Int} {p:Pg} (hp:S.bt.pg id=some p) (h1:p.place=1) (ho:(S.out id).2=true) (h:eG (S.out id).1 S'):eG S S'
def eG.trans{A B C:Cs}(h:eG A B)(h':eG B C):eG A C:=by
 induction h with
 |refl=>exact h'
 |step hp h1 ho _ a=>exact .step hp h1 ho (a h')
def eG.cM(h:Inv S)(t:Int)(gs:bS)(all:Bool):eG S (S.cM t gs all).1:=by
 cases hr:(S.cM t gs all).2 with
 |false=>rw[AZ hr];exact .refl S
 |true=>
  obtain⟨_,id,h1,_,b,c⟩:=A0 hr;obtain⟨p,hp,a,_⟩:=h.jS h1;rw[c];exact .step hp a b (.refl _)
def eG.inv{S':Cs}(h:eG S S')(a:Inv S):Inv S':=by
 induction h with
 |refl=>exact a
 |step hp h1 ho _ b=>exact b (a.out hp h1)
structure Kept(S S':Cs):Prop where
 tree:S'.tree=S.tree
 guards:S'.guards=S.guards
 bW:S'.files.bW=S.files.bW
 next:S'.bt.next=S.bt.next
 bY:S'.fr.bY.length=S.fr.bY.length/\S'.sl.bY.length=S.sl.bY.length
 bL:∀id p,S.bt.pg id=some p->∃q,S'.bt.pg id=some q/\q.kf=p.kf/\q.ki=p.ki/\q.owner=p.owner/\q.refs=p.refs/\(p.place≠1->q=p)
 none_:∀id,S.bt.pg id=none->S'.bt.pg id=none
 lim:∀g,g8 S'.fr.used g=g8 S.fr.used g/\g8 S'.sl.used g=g8 S.sl.used g
def Kept.refl(S:Cs):Kept S S:=⟨rfl,rfl,rfl,rfl,⟨rfl,rfl⟩,λ_ p h=>⟨p,h,rfl,rfl,rfl,rfl,λ_=>rfl⟩,λ_ h=>h,λ_=>⟨rfl,rfl⟩⟩
def Kept.trans{A B C:Cs}(h:Kept A B)(h':Kept B C):Kept A C:=by
 refine⟨h'.tree.trans h.tree,h'.guards.trans h.guards,h'.bW.trans h.bW,h'.next.trans h.next,⟨h'.bY.1.trans h.bY.1,h'.bY.2.trans h.bY.2⟩,λid p hp=>?_,λid hn=>h'.none_ id (h.none_ id hn),λg=>⟨(h'.lim g).1.trans (h.lim g).1,(h'.lim g).2.trans (h.lim g).2⟩⟩;obtain⟨q,d,b,c,a3,a4,a5⟩:=h.bL id p hp;obtain⟨r,hr,b1,b2,b3,b4,b5⟩:=h'.bL id q d;refine⟨r,hr,b1.trans b,b2.trans c,b3.trans a3,b4.trans a4,λa=>?_⟩;have e:=a5 a;rw[b5 (by rw[e];exact a),e]
def Hz{C:bA eP}(b:C.length=64)(l:bS)(n g:Int):g8 (gj C l n).1 g=g8 C g:=by
 cases hr:jj l n with
 |false=>unfold gj;rw[hr];rfl
 |true=>
  by_cases hb:∃x∈l,cT C x<n;·rw[Hu hr hb]
  ·rw[r6 hr (λx hx=>Int.not_lt.1 (λa=>hb ⟨x,hx,a⟩))];have:=mZ.1 hr;exact ui b this.1 this.2.1
def UG{C:bA eP}(b:C.length=64)(l:bS)(n g:Int):g8 (df C l n).1 g=g8 C g:=by
 cases hr:jj l n with
 |false=>unfold df;rw[hr];rfl
 |true=>
  by_cases a:(df C l n).2.2=0
  ·rw[(uj a).2.1];have:=mZ.1 hr;exact ui b this.1 this.2.1
  ·obtain⟨x,_,he,_⟩:=uk hr a;rw[he]
def q3(T:TS)(id:Int)(d:Bool):(T.mark id d).1.next=T.next/\(T.mark id d).1.files=T.files/\(T.mark id d).1.c0=T.c0/\∀x,(T.mark id d).1.pg x=(T.pg x).map λp=>if x=id then {p with e7:=d} else p:=by
 unfold TS.mark;cases hp:T.pg id with
 |none=>
  refine⟨rfl,rfl,rfl,λx=>?_⟩;by_cases e:x=id;·subst e;simp[hp]
  ·cases T.pg x<;>simp[e]
 |some p=>
  refine⟨rfl,rfl,rfl,λx=>?_⟩;show cL T.pg id (some _) x=_;by_cases e:x=id;·subst e;rw[j7,hp];simp
  ·rw[db _ _ e];cases T.pg x<;>simp[e]
def HA{id:Int}{h:Pg}(f:S.bt.pg id=some h)(h1:h.place=1)(p:Pg):Kept S (S.clean id p):=by
 obtain⟨i,c,d,k,l,m,j⟩:=wW (S:=S) id p;refine⟨i,j,?_,?_,⟨by rw[c],by rw[d]⟩,λx q a=>?_,λx hx=>?_,λg=>by rw[c,d];exact⟨rfl,rfl⟩⟩
 ·unfold Cs.clean;split
  ·show(ns _ _ _).1.bW=_;unfold ns;split;·rfl
   ·split<;>rfl
  ·rfl
 ·unfold Cs.clean;split;·exact(q3 _ _ _).1
  ·rfl
 ·unfold Cs.clean;split
  ·show ∃r,(S.bt.mark id false).1.pg x=some r/\_;rw[(q3 _ _ _).2.2.2,a];refine⟨_,rfl,?_,?_,?_,?_,λb=>?_⟩;·split<;>rfl
   ·split<;>rfl
   ·split<;>rfl
   ·split<;>rfl
   ·refine bJ (λe=>?_);subst e;rw[f]at a;rw[<- cR a]at b;exact b h1
  ·exact⟨q,a,rfl,rfl,rfl,rfl,λ_=>rfl⟩
 ·unfold Cs.clean;split
  ·show(S.bt.mark id false).1.pg x=none;rw[(q3 _ _ _).2.2.2,hx];rfl
  ·exact hx
def Kept.lP{T:TS}{id:Int}{p:Pg}{pl a:Int}(hp:T.pg id=some p)(h1:p.place=1):(∀x q,T.pg x=some q->∃r,(T.dS id p pl a).pg x=some r/\r.kf=q.kf/\r.ki=q.ki/\r.owner=q.owner/\r.refs=q.refs/\(q.place≠1->r=q))/\∀x,T.pg x=none->(T.dS id p pl a).pg x=none:=by
 refine⟨λx q b=>?_,λx hx=>?_⟩
 ·rw[jB];by_cases e:x=id
  ·subst e;rw[hp]at b;have:=cR b;subst this;exact⟨_,bK rfl,rfl,rfl,rfl,rfl,λc=>absurd h1 c⟩
  ·exact⟨q,by rw[bJ e];exact b,rfl,rfl,rfl,rfl,λ_=>rfl⟩
 ·rw[jB];by_cases e:x=id;·subst e;rw[hp]at hx;cases hx
  ·rw[bJ e];exact hx
def UH(h:Inv S){id:Int}{p:Pg}(hp:S.bt.pg id=some p)(h1:p.place=1):Kept S (S.out id).1:=by
 cases ho:(S.out id).2 with
 |false=>rw[r7 ho];exact .refl S
 |true=>
  unfold Cs.out at ho ⊢;rw[h.bL hp]at ho ⊢;dsimp only at ho ⊢;by_cases hk:0<=p.kf
  ·rw[bK hk];dsimp only;refine(HA hp h1 p).trans ?_;obtain⟨q,d,f,j,n,o,r,s⟩:=AY id p p hp;have e:=h.clean id p;rw[e.ny d];have b:=Kept.lP (pl:=0) (a:=0) d (by rw[f,h1]);refine⟨rfl,rfl,rfl,rfl,⟨?_,rfl⟩,b.1,b.2,λg=>⟨?_,rfl⟩⟩;·exact AJ _ _
   ·exact Hz e.fr.used.len _ _ _
  ·rw[bJ hk]at ho ⊢;split at ho
   ·next hw=>
    rw[bK hw];dsimp only;unfold Cs.fo at hw ⊢;split at hw;·cases hw
    next i=>
    rw[bJ i];dsimp only at hw ⊢;split at hw;·cases hw
    next hf=>
    rw[bJ hf];dsimp only;obtain⟨a,l,_,he⟩:=AU (by simpa using hf);rw[he];dsimp only;have k:∀q c,S.bt.pg c=some q->q.place=2->q.at_=(a:Int)->(2:Int)≠0->c=id:=by
     intro q c d f j _;have:=(h.sl.taken a).2 ⟨c,q,d,f,j⟩;rw[l]at this;cases this
    rw[h.cH.put_eq hp ⟨bN,bN,bu,λm=>absurd m bN⟩ k];have b:=Kept.lP (pl:=2) (a:=a) hp h1;refine⟨rfl,rfl,rfl,rfl,⟨AJ _ _,dW⟩,b.1,b.2,λg=>⟨Hz h.fr.used.len _ _ _,UG h.sl.used.len _ _ _⟩⟩
   ·cases ho
def eG.kept{S':Cs}(h:eG S S')(a:Inv S):Kept S S':=by
 induction h with
 |refl S=>exact .refl S
 |step hp h1 ho _ b=>exact(UH a hp h1).trans (b (a.out hp h1))
def HB{C:bA eP}(a:C.length=64){l:bS}(hl:∀g∈l,0<=g/\g<64)(hn:l.Nodup)(n:Int):dG (dG C l n) l (-n)=C:=by
 apply hg;intro i;rcases hN i 64 with d|d
 ·have h1:(dG (dG C l n) l (-n)).length=64:=by rw[nx,nx];exact a
  have b:fU (i:Int)=true:=jR.2 ⟨bu,bu⟩;have:=qv (-n) l (C:=dG C l n) (h:=(i:Int)) (by rw[nx];exact a) hl hn b;rw[qv n l a hl hn b]at this;rw[dA]at this;rw[dP,dP];simp only[dJ]at this;rw[dP,dP]at this;simp only[mI]at this;rw[this];split
  ·next hm=>
   congr 1;generalize C[i]=c;cases c;simp only[eP.mk.injEq,and_true];omega
  ·rfl
 ·rw[gQ (by rw[nx,nx];omega),gQ bu]
structure nz(S S0:Cs)(g:Int)(a:Nat)(r:Cs×Int×Int×Int):Prop where
 outs:eG S S0
 free:S0.fr.bY[a]?=some false
 least:∀j,j<a->S0.fr.bY[j]?=some true
 lim:∀x∈dk S.tree g,cT S0.fr.used x+1<=g8 S0.fr.used x
 eq:r=({S0 with fr:={S0.fr with bY:=S0.fr.bY.set a true,used:=dG S0.fr.used (dk S.tree g) 1}},(a:Int), -1,0)
structure uq(S S0:Cs)(g t:Int)(r:Cs×Int×Int×Int):Prop where
 outs:eG S S0
 no:(S0.c1 t).2=false
 G7:(t=0/\∀b∈S0.fr.bY,b=true)\/(t∈dk S.tree g/\g8 S0.fr.used t<cT S0.fr.used t+1)
 eq:r=(S0, -1,t,12)
def fO{g:Int}:∀(n:Nat) {S:Cs},Inv S->S.live g=true->S.bP.length<n->(∃S0 a,nz S S0 g a (take g n S))\/∃S0 t,uq S S0 g t (take g n S):=by
 intro n;induction n with
 |zero=>intro S _ _ h;omega
 |succ n r=>
  intro S h hl hn;have i:=qS h.wf hl;have hr:=um h.wf hl (n:=1) ⟨bN,bN⟩;have full:∀t:Int,((t=0/\∀b∈S.fr.bY,b=true)\/(t∈dk S.tree g/\g8 S.fr.used t<cT S.fr.used t+1))->
    (∃S0 a,nz S S0 g a (if(S.c1 t).2 then take g n (S.c1 t).1 else((S.c1 t).1, -1,t,12)))\/∃S0 j,uq S S0 g j (if(S.c1 t).2 then take g n (S.c1 t).1 else((S.c1 t).1, -1,t,12)):=by
   intro t q;cases he:(S.c1 t).2 with
   |false=>
    refine .inr ⟨S,t,.refl S,he,q,?_⟩;have:(S.c1 t).1=S:=AZ he;rw[this];rfl
   |true=>
    have p:=h.c1 t;have ho:eG S (S.c1 t).1:=eG.cM h t _ _;have hk:=ho.kept h;have d:=Hy h he;have l:(S.c1 t).1.live g=true:=by unfold Cs.live;rw[hk.tree];exact hl
    rcases r p l (by have:(S.c1 t).1.bP.length<S.bP.length:=d;omega)with⟨S0,a,k⟩|⟨S0,j,k⟩
    ·refine .inl ⟨S0,a,ho.trans k.outs,k.free,k.least,?_,?_⟩;·have:=k.lim;rw[hk.tree]at this;exact this
     ·have:=k.eq;rw[hk.tree]at this;simpa using this
    ·refine .inr ⟨S0,j,ho.trans k.outs,k.no,?_,by simpa using k.eq⟩;have:=k.G7;rw[hk.tree]at this;exact this
  unfold take;dsimp only;by_cases e:(df S.fr.used (S.chain g) 1).2.2=0
  ·rw[bK e];obtain⟨_,he,hle⟩:=uj e;by_cases hp:(fT S.fr.bY).2.2=0
   ·rw[bK hp];obtain⟨a,o,c,m⟩:=AU hp;refine .inl ⟨S,a,.refl S,o,c,λx hx=>hle x hx bN,?_⟩;rw[he,m];rfl
   ·rw[bJ hp];have f:(gj (df S.fr.used (S.chain g) 1).1 (S.chain g) 1).1=S.fr.used:=by
     rw[he];show(gj (dG S.fr.used (dk S.tree g) 1) (dk S.tree g) 1).1=_;rw[r6 hr (λx hx=>?_)];·exact HB h.fr.used.len i.1 i.2.1 1
     ·rw[po h.fr.used.len i.1 i.2.1,bK hx];have:=(h.fr.used.of x).1.1;unfold cT;omega
    rw[f];exact full 0 (.inl ⟨rfl,(AV hp).1⟩)
  ·rw[bJ e];obtain⟨x,hx,he,_,d⟩:=uk hr e;rw[show df S.fr.used (S.chain g) 1=(S.fr.used,x,22)from he];exact full x (.inr ⟨hx,d⟩)
def Cs.fO(h:Inv S){g:Int}(hl:S.live g=true):(∃S0 a,nz S S0 g a (S.take g))\/∃S0 t,uq S S0 g t (S.take g):=Kc.fO _ h hl bu
def ik.more{T T':TS}{tree:bA G}{s:eY}{pl:Int}(l:hI T)(h:ik T tree s pl)(k:pl≠0)(hn:T'.next=T.next+1)(c:∀x,x≠T.next->T'.pg x=T.pg x){p:Pg}(hp:T'.pg T.next=some p)(m:p.place=0):ik T' tree s pl:=by
 have j:T.pg T.next=none:=by
  cases b:T.pg T.next with
  |none=>rfl
  |some q=>have:=l.ids _ _ b;omega
 have key:∀is:Pg->Bool,jn T' pl is=jn T pl is:=by
  intro is;unfold jn;have e:T'.next.toNat=T.next.toNat+1:=by have:=l.next;omega
  rw[e,qu];have f:((T.next.toNat:Nat):Int)=T.next:=by have:=l.next;omega
  have:m0 T' pl is T.next.toNat=false:=by unfold m0;rw[f,hp];simp[m,nd k]
  rw[this];show hQ _ _+0=_;rw[lK];exact AT (λi r=>by unfold m0;rw[c (i:Int) bu])
 refine⟨h.fk,h.len,h.used,λa=>?_,λg o n=>by rw[h.use g o n,key],by rw[h.all,key]⟩;rw[h.taken a];constructor
 ·rintro⟨x,q,b,d,f⟩;have hx:x≠T.next:=λe=>by rw[e,j]at b;cases b
  exact⟨x,q,by rw[c x hx];exact b,d,f⟩
 ·rintro⟨x,q,b,d,f⟩;by_cases hx:x=T.next
  ·subst hx;rw[hp]at b;rw[<- cR b,m]at d;exact absurd d.symm k
  ·rw[c x hx]at b;exact⟨x,q,b,d,f⟩
def g5(T:TS)(kf ki:Int):Int×Int:=if kf<0 then(-1,T.next)else(kf,ki)
def HC(T:TS){kf ki o:Int}(hn:0<=T.next/\T.next<16777216)(b:kf<0\/T.of (kf,ki)<0):
  T.make kf ki o=(⟨cL T.pg T.next (some ⟨(g5 T kf ki).1,(g5 T kf ki).2,0,0,o,0,0,false,false⟩),if kf<0 then T.files else cL T.files (kf,ki) (some T.next),T.c0,T.next+1⟩,T.next,0):=by
 have hw:i64.wrap (T.next+1)=T.next+1:=cP bu bu;unfold TS.make g5;by_cases a:kf<0
 ·rw[bK a,bK a,bK a];unfold TS.iJ;rw[hw]
 ·rw[bJ a,bJ a,bJ a,cD];unfold TS.iJ;dsimp only;rw[hw]
def Inv0.make(h:Inv0 S)(hn:S.bt.next<16777216){kf ki o:Int}(hl:S.live o=true)(v:kf<0\/(S.bt.of (kf,ki)<0/\ec S.files (kf,ki)=true)):Inv0 {S with bt:=(S.bt.make kf ki o).1} :=by
 rw[HC _ ⟨h.cH.next,hn⟩ (v.imp_right And.left)];dsimp only;generalize s:(⟨cL S.bt.pg S.bt.next (some ⟨(g5 S.bt kf ki).1,(g5 S.bt kf ki).2,0,0,o,0,0,false,false⟩),if kf<0 then S.bt.files else cL S.bt.files (kf,ki) (some S.bt.next),S.bt.c0,S.bt.next+1⟩:TS)=T';have d:∀x,T'.pg x=if x=S.bt.next then some ⟨(g5 S.bt kf ki).1,(g5 S.bt kf ki).2,0,0,o,0,0,false,false⟩else S.bt.pg x:=by subst s;exact λx=>rfl
 have z:T'.c0=S.bt.c0:=by subst s;rfl
 have t:T'.next=S.bt.next+1:=by subst s;rfl
 have w:T'.files=if kf<0 then S.bt.files else cL S.bt.files (kf,ki) (some S.bt.next):=by subst s;rfl
 clear s;have k:S.bt.pg S.bt.next=none:=by
  cases b:S.bt.pg S.bt.next with
  |none=>rfl
  |some q=>have:=h.cH.ids _ _ b;omega
 have j:∀x,x≠S.bt.next->T'.pg x=S.bt.pg x:=λx hx=>by rw[d,bJ hx]
 have u:T'.pg S.bt.next=some ⟨(g5 S.bt kf ki).1,(g5 S.bt kf ki).2,0,0,o,0,0,false,false⟩:=by rw[d,bK rfl]
 refine {h with cH:=⟨by rw[t];have:=h.cH.next;omega,λx q b=>?_,λpl a x=>?_,λi m x=>?_,λx q b=>?_⟩,own:=λx q b=>?_,fr:=h.fr.more h.cH bN t j u rfl,sl:=h.sl.more h.cH bN t j u rfl,gen:=λx g=>?_,ky:=λx q b=>?_,ids:=by show T'.next<=_;rw[t];omega}
 ·rw[t];rw[d]at b;split at b;·next e=>subst e;have:=h.cH.next;omega
  ·have:=h.cH.ids _ _ b;omega
 ·rw[z,h.cH.spot];constructor
  ·rintro⟨q,b,e⟩;exact⟨q,by rw[j x (λe=>by rw[e,k]at b;cases b)];exact b,e⟩
  ·rintro⟨q,b,c,f,r⟩;rw[d]at b;split at b
   ·rw[<- cR b]at c;exact absurd c.symm r
   ·exact⟨q,b,c,f,r⟩
 ·rw[w];by_cases l:kf<0
  ·rw[bK l,h.cH.file];constructor
   ·rintro⟨q,b,e⟩;exact⟨q,by rw[j x (λe=>by rw[e,k]at b;cases b)];exact b,e⟩
   ·rintro⟨q,b,c,f,r⟩;rw[d]at b;split at b
    ·rw[<- cR b]at c;have c:(g5 S.bt kf ki).1=i:=c;unfold g5 at c;rw[bK l]at c;have c:(-1:Int)=i:=c;omega
    ·exact⟨q,b,c,f,r⟩
  ·rw[bJ l];have y:S.bt.files (kf,ki)=none:=by
    rcases v with n|⟨n,_⟩
    ·exact absurd n l
    ·unfold TS.of at n;cases hf:S.bt.files (kf,ki)with
     |none=>rfl
     |some x=>
      rw[hf]at n;obtain⟨q,b,_⟩:=(h.cH.file kf ki x).1 hf;have:=h.cH.ids _ _ b;simp at n;omega
   unfold cL;by_cases e:(i,m)=(kf,ki)
   ·rw[bK e];have e:i=kf/\m=ki:=by simpa using e
    obtain⟨rfl,rfl⟩:=e;constructor
    ·intro hx;have:=cR hx;subst this;refine⟨_,u,?_,?_,bu⟩;·show(g5 S.bt i m).1=i;unfold g5;rw[bJ l]
     ·show(g5 S.bt i m).2=m;unfold g5;rw[bJ l]
    ·rintro⟨q,b,c,f,r⟩;rw[d]at b;split at b;·next e=>rw[e]
     ·have:=(h.cH.file i m x).2 ⟨q,b,c,f,r⟩;rw[y]at this;cases this
   ·rw[bJ e,h.cH.file];constructor
    ·rintro⟨q,b,e⟩;exact⟨q,by rw[j x (λe=>by rw[e,k]at b;cases b)];exact b,e⟩
    ·rintro⟨q,b,c,f,r⟩;rw[d]at b;split at b
     ·rw[<- cR b]at c f;have c:(g5 S.bt kf ki).1=i:=c;have f:(g5 S.bt kf ki).2=m:=f;unfold g5 at c f;rw[bJ l]at c f;exact absurd (by rw[<- c,<- f]) e
     ·exact⟨q,b,c,f,r⟩
 ·rw[d]at b;split at b;·rw[<- cR b];exact⟨⟨g2 _,(by show(0:Int)<=2;decide),g2 _,λ_=>rfl⟩,g2 _⟩
  ·exact h.cH.pl _ _ b
 ·rw[d]at b;split at b;·rw[<- cR b];exact hl
  ·exact h.own _ _ b
 ·show _↔∃p,T'.pg x=some p/\_;rw[h.gen];constructor
  ·rintro⟨q,b,e⟩;exact⟨q,by rw[j x (λe=>by rw[e,k]at b;cases b)];exact b,e⟩
  ·rintro⟨q,b,c,f⟩;rw[d]at b;split at b;·rw[<- cR b]at c;cases c
   ·exact⟨q,b,c,f⟩
 ·intro hk;rw[d]at b;split at b
  ·rw[<- cR b]at hk ⊢;have hk:0<=(g5 S.bt kf ki).1:=hk;refine⟨?_,by show(0:Int)≠2;decide⟩;show ec S.files ((g5 S.bt kf ki).1,(g5 S.bt kf ki).2)=true;unfold g5 at hk ⊢;by_cases l:kf<0;·rw[bK l]at hk;have hk:(0:Int)<= -1:=hk;omega
   ·rw[bJ l];rcases v with n|⟨_,n⟩
    ·exact absurd n l
    ·exact n
  ·exact h.ky _ _ b hk
def UI(h:Inv0 S){id:Int}(a:∀p,S.bt.pg id=some p->p.place≠1):fc S.bP id=none:=by
 rw[r2 h.ep.cX];rintro e he rfl;obtain⟨p,hp,h1,_⟩:=(h.gen e.id e.group).1 ⟨e,he,rfl,rfl⟩;exact a p hp h1
def UJ{T:TS}{id o:Int}{p:Pg}(hp:T.pg id=some p):T.own id o=(T.cJ id {p with owner:=o},0):=by unfold TS.own;rw[hp]
def Inv0.toFrame(h:Inv0 S){id g:Int}{p:Pg}(hp:S.bt.pg id=some p)(f:p.place=0\/(p.place=2/\p.owner=g))(hl:S.live g=true){a:Nat}(u:S.fr.bY[a]?=some false)(s:∀x∈dk S.tree g,cT S.fr.used x+1<=g8 S.fr.used x)(text:bA UInt8)(dZ:Bool):
  Inv0 (Cs.place {S with fr:={S.fr with bY:=S.fr.bY.set a true,used:=dG S.fr.used (dk S.tree g) 1},sl:=if p.place=2 then S.sl.du p.at_ (dk S.tree g)else S.sl} id a g text dZ)/\
  ((S.bt.own id g).1.put id 1 a).1=(S.bt.cJ id {p with owner:=g}).dS id {p with owner:=g} 1 a:=by
 have j:p.place≠1:=by rcases f with e|⟨e,_⟩<;>rw[e]<;>decide
 have m:hI (S.bt.cJ id {p with owner:=g}):=h.cH.set hp rfl rfl rfl rfl (h.cH.pl _ _ hp).2;have r:(S.bt.cJ id {p with owner:=g}).pg id=some {p with owner:=g} :=j7 _ _ _;have t:∀q x,S.bt.pg x=some q->q.place=1->q.at_≠(a:Int):=by
  intro q x b i k;have:=(h.fr.taken a).2 ⟨x,q,b,i,k⟩;rw[u]at this;cases this
 have n:∀q x,(S.bt.cJ id {p with owner:=g}).pg x=some q->q.place=1->q.at_=(a:Int)->(1:Int)≠0->x=id:=by
  intro q x b i k _;rcases kR b with⟨e,_⟩|⟨_,b⟩
  ·exact e
  ·exact absurd k (t q x b i)
 have heq:((S.bt.own id g).1.put id 1 a).1=(S.bt.cJ id {p with owner:=g}).dS id {p with owner:=g} 1 a:=by
  rw[UJ hp,m.put_eq r ⟨bN,bN,bu,λl=>absurd l bN⟩ n]
 refine⟨?_,heq⟩;have z:=m.dS r (pl:=1) (a:=a) ⟨bN,bN,bu,λl=>absurd l bN⟩ n;have c:∀x,((S.bt.cJ id {p with owner:=g}).dS id {p with owner:=g} 1 a).pg x=if x=id then some {p with owner:=g,place:=1,at_:=a} else S.bt.pg x:=by
  intro x;rw[jB];by_cases e:x=id;·rw[bK e,bK e];rfl
  ·rw[bJ e,bJ e];exact db _ _ e
 have d:∀x,x≠id->((S.bt.cJ id {p with owner:=g}).dS id {p with owner:=g} 1 a).pg x=S.bt.pg x:=λx hx=>by rw[c,bJ hx]
 have y:¬ ih id g:=by
  unfold ih;have h1:=h.cH.ids _ _ hp;have h2:=h.ids;have A:=Ta hl;have B:=h.wf.fk;omega
 have v:=UI h (id:=id) (λq b=>by rw[hp]at b;rw[<- cR b];exact j);unfold Cs.place;rw[heq];refine⟨h.wf,h.gl,z,λx q b=>?_,?_,?_,h.ep.add id g dZ,λx o=>?_,h.log,λx q b=>?_,h.qT,h.ids⟩
 ·rw[c]at b;split at b;·rw[<- cR b];exact hl
  ·exact h.own _ _ b
 ·refine h.fr.pq (T':=(S.bt.cJ id {p with owner:=g}).dS id {p with owner:=g} 1 a) h.cH h.wf hp j rfl d (q:={p with owner:=g,place:=1,at_:=a}) (by rw[c,bK rfl]) rfl hl rfl u s ?_;show(By.wr (S.fr.bY.set a true).length S.fr.c9 a text).1.length=_;rw[dW];exact By.AS h.fr.len _
 ·show ik _ _ (if p.place=2 then S.sl.du p.at_ (dk S.tree g)else S.sl) 2;rcases f with f|⟨f,w⟩
  ·rw[bJ (by rw[f];decide)];refine h.sl.other rfl (λx=>?_);by_cases hx:x=id
   ·subst hx;refine .inr (.inl ⟨λq b=>?_,λq b=>?_⟩);·rw[hp]at b;rw[<- cR b,f];decide
    ·rw[c,bK rfl]at b;rw[<- cR b];show(1:Int)≠2;decide
   ·exact .inl (d x hx)
  ·rw[bK f,<- w];rw[<- w]at d c;refine h.sl.du h.cH h.wf bN hp f (h.own _ _ hp) rfl d (λq b=>?_);rw[c,bK rfl]at b;rw[<- cR b];show(1:Int)≠2;decide
 ·show(∃e∈(jM S.bP id g dZ).1,e.id=x/\e.group=o)↔∃q,((S.bt.cJ id {p with owner:=g}).dS id {p with owner:=g} 1 a).pg x=some q/\q.place=1/\q.owner=o;rw[UB h.ep y v,h.gen,c];by_cases hx:x=id
  ·rw[bK hx];constructor
   ·rintro(⟨_,e⟩|⟨q,b,i,_⟩);·exact⟨_,rfl,rfl,e.symm⟩
    ·rw[hx,hp]at b;rw[<- cR b]at i;exact absurd i j
   ·rintro⟨q,b,i,k⟩;rw[<- cR b]at k;exact .inl ⟨hx,k.symm⟩
  ·rw[bJ hx];exact⟨λl=>l.resolve_left (λe=>hx e.1),.inr⟩
 ·rw[c]at b;split at b
  ·rw[<- cR b];exact λhk=>⟨(h.ky _ _ hp hk).1,by show(1:Int)≠2;decide⟩
  ·exact h.ky _ _ b
def Inv0.jC{S0:Cs}(h:Inv S)(ho:eG S S0){g:Int}(hl:S.live g=true):S0.live g=true:=by
 unfold Cs.live;rw[(ho.kept h).tree];exact hl
def q4(T:TS){kf ki o:Int}(hn:0<=T.next/\T.next<16777216)(a:kf<0\/T.of (kf,ki)<0):(T.make kf ki o).2=(T.next,0)/\(T.make kf ki o).1.next=T.next+1/\
  ∀x,(T.make kf ki o).1.pg x=if x=T.next then some ⟨(g5 T kf ki).1,(g5 T kf ki).2,0,0,o,0,0,false,false⟩else T.pg x:=by
 rw[HC T hn a];exact⟨rfl,rfl,λx=>rfl⟩
def HD{T:TS}{id g a:Int}{p:Pg}{S:Cs}{text:bA UInt8}{dZ:Bool}(he:((S.bt.own id g).1.put id 1 a).1=(S.bt.cJ id {p with owner:=g}).dS id {p with owner:=g} 1 a)(x:Int):
  (S.place id a g text dZ).bt.pg x=if x=id then some {p with owner:=g,place:=1,at_:=a} else S.bt.pg x:=by
 have _:=T;show(((S.bt.own id g).1.put id 1 a).1).pg x=_;rw[he,jB];by_cases e:x=id;·rw[bK e,bK e];rfl
 ·rw[bJ e,bJ e];exact db _ _ e
def wZ(h:Inv S)(hn:S.bt.next<16777216){g:Int}(hl:S.live g=true)(text:bA UInt8):
  (∃S0 a,nz S S0 g a (S.take g)/\S.c8 g text=(Cs.place {S0 with bt:=(S0.bt.make (-1) 0 g).1,fr:={S0.fr with bY:=S0.fr.bY.set a true,used:=dG S0.fr.used (dk S0.tree g) 1}} S0.bt.next a g text false,S.bt.next, -1,0)/\
   Inv (S.c8 g text).1/\(∀x,(S.c8 g text).1.bt.pg x=if x=S.bt.next then some ⟨-1,S.bt.next,1,a,g,0,0,false,false⟩else S0.bt.pg x))\/
  ∃S0 t,uq S S0 g t (S.take g)/\S.c8 g text=(S0, -1,t,12):=by
 rcases Cs.fO h hl with⟨S0,a,k⟩|⟨S0,t,k⟩
 ·have hk:=k.outs.kept h;have j:=k.outs.inv h;have d:S0.live g=true:=Inv0.jC h k.outs hl;have f:S0.bt.next<16777216:=by rw[hk.next];exact hn
  have hm:=q4 S0.bt (kf:= -1) (ki:=0) (o:=g) ⟨j.cH.next,f⟩ (.inl bN);have n:=j.toInv0.make f (kf:= -1) (ki:=0) d (.inl bN);have hp:(S0.bt.make (-1) 0 g).1.pg S0.bt.next=some ⟨-1,S0.bt.next,0,0,g,0,0,false,false⟩:=by rw[hm.2.2,bK rfl];rfl
  have l:=n.toFrame (id:=S0.bt.next) (g:=g) hp (.inl rfl) d k.free (by have:=k.lim;rw[<- hk.tree]at this;exact this) text false;have b:S.c8 g text=(Cs.place {S0 with bt:=(S0.bt.make (-1) 0 g).1,fr:={S0.fr with bY:=S0.fr.bY.set a true,used:=dG S0.fr.used (dk S0.tree g) 1}} S0.bt.next a g text false,S.bt.next, -1,0):=by
   unfold Cs.c8;rw[k.eq];dsimp only;rw[bJ bN];rw[hm.1,hk.next,hk.tree]
  have i:∀x,(S.c8 g text).1.bt.pg x=if x=S.bt.next then some ⟨-1,S.bt.next,1,a,g,0,0,false,false⟩else S0.bt.pg x:=by
   intro x;rw[b];have:=HD (T:=S0.bt) (S:={S0 with bt:=(S0.bt.make (-1) 0 g).1,fr:={S0.fr with bY:=S0.fr.bY.set a true,used:=dG S0.fr.used (dk S0.tree g) 1}}) (text:=text) (dZ:=false) l.2 x;refine this.trans ?_;rw[hk.next];by_cases e:x=S.bt.next;·rw[bK e,bK e]
   ·rw[bJ e,bJ e,hm.2.2,hk.next,bJ e]
  refine .inl ⟨S0,a,k,b,⟨?_,λx q c m=>?_⟩,i⟩;·rw[b];exact l.1
  ·rw[i]at c;split at c;·rw[<- cR c];show(1:Int)≠0;decide
   ·exact j.anon _ _ c m
 ·refine .inr ⟨S0,t,k,?_⟩;unfold Cs.c8;rw[k.eq];dsimp only;rw[bK bN]
def Inv.c8(h:Inv S)(hn:S.bt.next<16777216){g:Int}(hl:S.live g=true)(text:bA UInt8):Inv (S.c8 g text).1:=by
 rcases wZ h hn hl text with⟨S0,a,k,he,b,_⟩|⟨S0,t,k,he⟩
 ·exact b
 ·rw[he];exact k.outs.inv h
def Inv.fresh(h:Inv S)(hn:S.bt.next<16777216)(g:Int):Inv (S.fresh g).1:=by
 unfold Cs.fresh;split;·exact h
 ·next hl=>exact h.c8 hn (by simpa using hl) _
def Inv.copy(h:Inv S)(hn:S.bt.next<16777216)(id g:Int):Inv (S.copy id g).1:=by
 unfold Cs.copy;dsimp only;split;·exact h
 ·next hl=>
  have hl:S.live g=true:=by
   cases a:S.live g with
   |true=>rfl
   |false=>exact absurd (.inr (.inl a)) hl
  exact h.c8 hn hl _
structure UK(S S0:Cs)(id:Int)(p:Pg)(o:Int)(a:Nat)(r:Cs×Int×Int):Prop where
 took:nz S S0 o a (S.take o)
 bL:S0.bt.pg id=some p
 A1:r.2=(-1,0)
 pg:∀x,r.1.bt.pg x=if x=id then some {p with owner:=o,place:=1,at_:=a} else S0.bt.pg x
 next:r.1.bt.next=S.bt.next
 tree:r.1.tree=S.tree
 files:r.1.files=S0.files
 c9:r.1.fr.c9=(By.wr S0.fr.bY.length S0.fr.c9 a (S0.text p)).1
 bY:r.1.fr.bY=S0.fr.bY.set a true
 used:r.1.fr.used=dG S0.fr.used (dk S.tree o) 1
 sl:r.1.sl=if p.place=2 then S0.sl.du p.at_ (dk S.tree o)else S0.sl
 guards:r.1.guards=S.guards
def ur(h:Inv0 S)(j:∀x p,S.bt.pg x=some p->p.kf<0->p.place≠0){id g:Int}{p:Pg}(hp:S.bt.pg id=some p)(hl:S.live g=true)(B:¬ (p.place=0/\p.kf<0))(h1:p.place≠1):
  (∃S0 a,UK S S0 id p (if p.place=0 then g else p.owner) a (S.bX id g)/\Inv (S.bX id g).1)\/∃S0 t,uq S S0 (if p.place=0 then g else p.owner) t (S.take (if p.place=0 then g else p.owner))/\S.bX id g=(S0,t,12):=by
 have i:Inv S:=⟨h,j⟩
 have m:S.live (if p.place=0 then g else p.owner)=true:=by
  split;·exact hl
  ·exact h.own _ _ hp
 have hb:S.bX id g=(let o:=if p.place=0 then g else p.owner
  let t:=S.take o
  if t.2.2.2≠0 then(t.1,t.2.2.1,t.2.2.2)else
  let text:=t.1.text p;let f:=if p.place=2 then {t.1 with sl:=t.1.sl.du p.at_ (t.1.chain o)} else t.1
  let v:=mi f.log ((f.kept id).getD 0) (f.memory o)
  (f.place id t.2.1 o text (!v), -1,0)):=by
  unfold Cs.bX;rw[h.bL hp];dsimp only;rw[bJ (by rintro(c|c|c);exact c rfl;rw[hl]at c;cases c;exact B c),bJ h1]
 dsimp only at hb;rcases Cs.fO i m with⟨S0,a,k⟩|⟨S0,t,k⟩
 ·left;have hk:=k.outs.kept i;have y:=k.outs.inv i;obtain⟨q,C,_,_,_,_,s⟩:=hk.bL id p hp;have s:=s h1;subst s;generalize ho:(if q.place=0 then g else q.owner)=o at*
  have A:S0.live o=true:=Inv0.jC i k.outs m;have d:=k.lim;rw[<- hk.tree]at d;have l:∀(P:bA Bool) (U:bA eP),Cs.text {S0 with fr:={S0.fr with bY:=P,used:=U}} q=S0.text q:=by
   intro P U;unfold Cs.text;rw[bJ h1,bJ h1]
  have D:=(h.cH.pl _ _ hp).1;have w:q.place=0\/(q.place=2/\q.owner=o):=by
   by_cases e:q.place=0;·exact .inl e
   ·rw[bJ e]at ho;exact .inr ⟨bu,ho⟩
  have b:∃dZ,S.bX id g=(Cs.place {S0 with fr:={S0.fr with bY:=S0.fr.bY.set a true,used:=dG S0.fr.used (dk S0.tree o) 1},sl:=if q.place=2 then S0.sl.du q.at_ (dk S0.tree o)else S0.sl} id a o (S0.text q) dZ, -1,0):=by
   refine⟨!mi S0.log ((S0.kept id).getD 0) (cT (dG S0.fr.used (dk S.tree o) 1) o),?_⟩;rw[hb,k.eq];dsimp only;rw[bJ bN,l,hk.tree];by_cases e:q.place=2
   ·simp only[bK e];rfl
   ·simp only[bJ e];rfl
  obtain⟨dZ,b⟩:=b;have u:=y.toInv0.toFrame (id:=id) (g:=o) C w A k.free d (S0.text q) dZ;have n:∀x,(S.bX id g).1.bt.pg x=if x=id then some {q with owner:=o,place:=1,at_:=a} else S0.bt.pg x:=by
   intro x;rw[b];exact HD (T:=S0.bt) (S:={S0 with fr:={S0.fr with bY:=S0.fr.bY.set a true,used:=dG S0.fr.used (dk S0.tree o) 1},sl:=if q.place=2 then S0.sl.du q.at_ (dk S0.tree o)else S0.sl}) (text:=S0.text q) (dZ:=dZ) u.2 x
  refine⟨S0,a,⟨k,C,by rw[b],n,?_,?_,?_,?_,?_,?_,?_,?_⟩,?_,λx r hr z=>?_⟩
  ·rw[b];show(((S0.bt.own id o).1.put id 1 a).1).next=_;rw[u.2];exact hk.next
  ·rw[b];exact hk.tree
  ·rw[b];rfl
  ·rw[b];show(By.wr (S0.fr.bY.set a true).length S0.fr.c9 a (S0.text q)).1=_;rw[dW]
  ·rw[b];rfl
  ·rw[b,<- hk.tree];rfl
  ·rw[b,<- hk.tree];rfl
  ·rw[b];exact hk.guards
  ·rw[b];exact u.1
  ·rw[n]at hr;split at hr;·rw[<- cR hr];show(1:Int)≠0;decide
   ·exact y.anon _ _ hr z
 ·right;refine⟨S0,t,k,?_⟩;rw[hb,k.eq];dsimp only;rw[bK bN]
def pw(h:Inv0 S){id g:Int}(hb:S.bt.pg id=none\/S.live g=false\/∃p,S.bt.pg id=some p/\p.place=0/\p.kf<0):S.bX id g=(S, -1,2):=by
 unfold Cs.bX;dsimp only;rw[bK];rcases hb with a|a|⟨p,hp,a⟩
 ·left;unfold TS.get;rw[a];decide
 ·exact .inr (.inl a)
 ·right;right;rw[h.bL hp];exact a
def w1(h:Inv0 S){id g:Int}{p:Pg}(hp:S.bt.pg id=some p)(h1:p.place=1)(hl:S.live g=true):S.bX id g=({S with bP:=(hj S.bP id).1}, -1,0):=by
 unfold Cs.bX;rw[h.bL hp];dsimp only;rw[bJ (by rintro(a|a|a);exact a rfl;rw[hl]at a;cases a;rw[h1]at a;cases a.1),bK h1]
def Inv.bX(h:Inv S)(id g:Int):Inv (S.bX id g).1:=by
 cases hp:S.bt.pg id with
 |none=>rw[pw h.toInv0 (.inl hp)];exact h
 |some p=>
  cases hl:S.live g with
  |false=>rw[pw h.toInv0 (.inr (.inl hl))];exact h
  |true=>
   by_cases b:p.place=0/\p.kf<0;·rw[pw h.toInv0 (.inr (.inr ⟨p,hp,b⟩))];exact h
   ·by_cases h1:p.place=1;·rw[w1 h.toInv0 hp h1 hl];exact h.cm id
    ·rcases ur h.toInv0 h.anon hp hl b h1 with⟨S0,a,k,c⟩|⟨S0,t,k,he⟩
     ·exact c
     ·rw[he];exact k.outs.inv h
def uu{T:TS}{id:Int}{p:Pg}(hp:T.pg id=some p)(hr:p.refs<=0)(a:p.place=0):T.drop id=({T with pg:=cL T.pg id none,files:=cL T.files (p.kf,p.ki) none},0):=by
 unfold TS.drop;rw[hp];dsimp only;rw[cD]
def m1{κ α:Type}[DecidableEq κ]{f:κ->bV α}{k x:κ}{y:α}(h:cL f k none x=some y):x≠k/\f x=some y:=by
 unfold cL at h;split at h;·cases h
 ·next e=>exact⟨e,h⟩
def Inv0.lQ(h:Inv0 S){id:Int}{p:Pg}(hp:S.bt.pg id=some p)(l:p.place=0):Inv0 {S with bt:={S.bt with pg:=cL S.bt.pg id none,files:=cL S.bt.files (p.kf,p.ki) none}} :=by
 have n:∀pl:Int,pl≠0->∀x,(cL S.bt.pg id none x=S.bt.pg x)\/((∀p,S.bt.pg x=some p->p.place≠pl)/\∀p,cL S.bt.pg id none x=some p->p.place≠pl)\/(∃p k,S.bt.pg x=some p/\cL S.bt.pg id none x=some k/\k.place=p.place/\k.at_=p.at_/\k.owner=p.owner):=by
  intro pl m x;by_cases hx:x=id
  ·subst hx;refine .inr (.inl ⟨λq b=>?_,λq b=>?_⟩);·rw[hp]at b;rw[<- cR b,l];exact m.symm
   ·rw[j7]at b;cases b
  ·exact .inl (db _ _ hx)
 refine {h with cH:=⟨h.cH.next,λx q b=>h.cH.ids _ _ (m1 b).2,λpl a x=>?_,λkf ki x=>?_,λx q b=>h.cH.pl _ _ (m1 b).2⟩,own:=λx q b=>h.own _ _ (m1 b).2,fr:=h.fr.other rfl (n 1 bN),sl:=h.sl.other rfl (n 2 bN),gen:=λx g=>?_,ky:=λx q b=>h.ky _ _ (m1 b).2}
 ·show S.bt.c0 (pl,a)=some x↔∃q,cL S.bt.pg id none x=some q/\_;rw[h.cH.spot];constructor
  ·rintro⟨q,b,c,d,f⟩;have hx:x≠id:=by
    rintro rfl;rw[hp]at b;rw[<- cR b,l]at c;exact f c.symm
   exact⟨q,by rw[db _ _ hx];exact b,c,d,f⟩
  ·rintro⟨q,b,e⟩;exact⟨q,(m1 b).2,e⟩
 ·show cL S.bt.files (p.kf,p.ki) none (kf,ki)=some x↔∃q,cL S.bt.pg id none x=some q/\_;constructor
  ·intro hx;obtain⟨i,hx⟩:=m1 hx;obtain⟨q,b,c,d,f⟩:=(h.cH.file kf ki x).1 hx;have j:x≠id:=by
    rintro rfl;rw[hp]at b;have:=cR b;subst this;exact i (by rw[c,d])
   exact⟨q,by rw[db _ _ j];exact b,c,d,f⟩
  ·rintro⟨q,b,c,d,f⟩;obtain⟨j,b⟩:=m1 b;have hx:=(h.cH.file kf ki x).2 ⟨q,b,c,d,f⟩;have i:(kf,ki)≠(p.kf,p.ki):=by
    intro e;have e:kf=p.kf/\ki=p.ki:=by simpa using e
    have:=(h.cH.file kf ki id).2 ⟨p,hp,e.1.symm,e.2.symm,f⟩;rw[hx]at this;exact j (cR this)
   rw[db _ _ i];exact hx
 ·show _↔∃q,cL S.bt.pg id none x=some q/\_;rw[h.gen];constructor
  ·rintro⟨q,b,c,d⟩;have hx:x≠id:=by
    rintro rfl;rw[hp]at b;rw[<- cR b,l]at c;cases c
   exact⟨q,by rw[db _ _ hx];exact b,c,d⟩
  ·rintro⟨q,b,e⟩;exact⟨q,(m1 b).2,e⟩
def HE(h:Inv0 S){k:Int×Int}(hk:0<=S.bt.of k):∃p,S.bt.pg (S.bt.of k)=some p/\(p.kf,p.ki)=k/\0<=p.kf:=by
 unfold TS.of at hk ⊢;cases hf:S.bt.files k with
 |none=>rw[hf]at hk;exact absurd hk bN
 |some x=>
  obtain⟨kf,ki⟩:=k;obtain⟨p,hp,a,b,c⟩:=(h.cH.file kf ki x).1 hf;exact⟨p,hp,by rw[a,b],by rw[a];exact c⟩
def w3{F:FS}{k:Int×Int}(h:ec F k=true):0<=k.1:=by
 unfold ec at h;rw[dy,gw,gw]at h;unfold nq at h;split at h;·omega
 ·omega
def Inv.cA(h:Inv S)(hn:S.bt.next<16777216)(k:Int×Int)(g:Int):Inv (S.cA k g).1:=by
 unfold Cs.cA;dsimp only;split;·exact h
 ·next w=>
  have hl:S.live g=true:=by
   cases f:S.live g with
   |true=>rfl
   |false=>exact absurd (.inr f) w
  have hf:ec S.files k=true:=by
   cases f:ec S.files k with
   |true=>rfl
   |false=>exact absurd (.inl f) w
  by_cases hm:S.bt.of k<0
  ·rw[dF hm];simp only[g3];obtain⟨kf,ki⟩:=k;have j:=w3 hf;have l:=q4 S.bt (kf:=kf) (ki:=ki) (o:=g) ⟨h.cH.next,hn⟩ (.inr hm);rw[show(S.bt.make kf ki g).2.1=S.bt.next by rw[l.1]];have u:=h.toInv0.make hn (kf:=kf) (ki:=ki) hl (.inr ⟨hm,hf⟩);have i:g5 S.bt kf ki=(kf,ki):=by unfold g5;rw[bJ (by have:0<=kf:=j;omega)]
   have hp:(S.bt.make kf ki g).1.pg S.bt.next=some ⟨kf,ki,0,0,g,0,0,false,false⟩:=by rw[l.2.2,bK rfl,i]
   have d:∀x p,(S.bt.make kf ki g).1.pg x=some p->p.kf<0->p.place≠0:=by
    intro x q c m;rw[l.2.2]at c;split at c
    ·rw[<- cR c,i]at m;have:kf<0:=m;have:0<=kf:=j;omega
    ·exact h.anon _ _ c m
   rcases ur u d (id:=S.bt.next) (g:=g) hp hl (λe=>by have h1:kf<0:=e.2;have:0<=kf:=j;omega) (by show(0:Int)≠1;decide)with⟨S0,a,b,n⟩|⟨S0,t,b,he⟩
   ·rw[b.A1];dsimp only;rw[bK rfl];exact n
   ·rw[he];dsimp only;rw[bJ bN];have v:Inv {S with bt:=(S.bt.make kf ki g).1} :=⟨u,d⟩
    have n:=b.outs.inv v;obtain⟨q,c,_,_,_,_,s⟩:=(b.outs.kept v).bL S.bt.next _ hp;have s:=s (by show(0:Int)≠1;decide);subst s;rw[uu c (g2 _) rfl];exact⟨n.toInv0.lQ c rfl,λx r hr=>n.anon _ _ (m1 hr).2⟩
  ·rw[dg hm];simp only[l4,gR];have:=h.bX (S.bt.of k) g;split<;>exact this
def Inv.get(h:Inv S)(id a:Int):Inv (S.get id a).1:=by
 unfold Cs.get;dsimp only;split;·exact h
 ·dsimp only;split;·exact h.cm id
  ·exact h
def Inv.put(h:Inv S)(id a:Int)(b:UInt8):Inv (S.put id a b).1:=by
 unfold Cs.put;dsimp only;split;·exact h
 ·split
  ·have h1:Inv {S with fr:={S.fr with c9:=(By.pt S.fr.bY.length S.fr.c9 (S.here id).1 a b).1}} :=
    ⟨{h.toInv0 with fr:={h.fr with len:=By.Us h.fr.len _ _}},h.anon⟩
   exact((h1.cm id).mark id true)
  ·exact h
def A2{T:TS}{id n:Int}{p:Pg}(hp:T.pg id=some p):T.bO id n=if n< -1000\/1000<n\/i64.wrap (p.refs+n)<0 then(T,0,1)else(T.cJ id {p with refs:=i64.wrap (p.refs+n)},i64.wrap (p.refs+n),0):=by
 unfold TS.bO;rw[hp]
def nY(h:Inv S)(id n:Int):(S.bt.pg id=none/\S.bO id n=(S,2))\/∃p,S.bt.pg id=some p/\
    (((n< -1000\/1000<n\/i64.wrap (p.refs+n)<0)/\S.bO id n=(S,1))\/
     (0<i64.wrap (p.refs+n)/\(-1000<=n/\n<=1000)/\S.bO id n=({S with bt:=S.bt.cJ id {p with refs:=i64.wrap (p.refs+n)}},0))\/
     (i64.wrap (p.refs+n)=0/\(-1000<=n/\n<=1000)/\(S.bO id n).2=0/\Inv (S.bO id n).1/\(S.bO id n).1.bt.next=S.bt.next/\(∀x,(S.bO id n).1.bt.pg x=if x=id then none else S.bt.pg x)/\(S.bO id n).1.tree=S.tree/\(S.bO id n).1.guards=S.guards/\
       (S.bO id n).1.fr=(if p.place=1 then S.fr.du p.at_ (dk S.tree p.owner)else S.fr)/\(S.bO id n).1.sl=(if p.place=2 then S.sl.du p.at_ (dk S.tree p.owner)else S.sl)/\
       (S.bO id n).1.files.bW=S.files.bW/\(p.kf<0->(S.bO id n).1.files=S.files))):=by
  cases hp:S.bt.pg id with
  |none=>
    refine .inl ⟨rfl,?_⟩;unfold Cs.bO TS.bO;rw[hp];rfl
  |some p=>
    refine .inr ⟨p,rfl,?_⟩;by_cases hb:n< -1000\/1000<n\/i64.wrap (p.refs+n)<0
    · refine .inl ⟨hb,?_⟩
      unfold Cs.bO;rw[A2 hp,bK hb];rfl
    · by_cases P:0<i64.wrap (p.refs+n)
      · refine .inr (.inl ⟨P,bu,?_⟩)
        unfold Cs.bO;rw[A2 hp,bJ hb];dsimp only;rw[bK (.inr P)]
      · refine .inr (.inr ⟨bu,bu,?_⟩)
        have V:i64.wrap (p.refs+n)=0:=by omega
        have h1:Inv {S with bt:=S.bt.cJ id {p with refs:=0}} :=h.cJ hp rfl rfl rfl rfl (g2 _) rfl;have c:(S.bt.cJ id {p with refs:=0}).pg id=some {p with refs:=0} :=j7 _ _ _;have i:∀x,x≠id->(S.bt.cJ id {p with refs:=0}).pg x=S.bt.pg x:=λx hx=>db _ _ hx;have Q:=(h.cH.pl _ _ hp).1;have hr:S.bO id n=(let a:Cs:={S with bt:=S.bt.cJ id {p with refs:=0}}
          let N:=a.chain p.owner;let J:=if p.place=1 then
              let b:=a.clean id {p with refs:=0}
              {b with fr:=b.fr.du p.at_ N,bP:=(jl b.bP id).1}
            else if p.place=2 then {a with sl:=a.sl.du p.at_ N} else a
          let d:=(J.bt.put id 0 0).1.drop id
          ({J with bt:=d.1},d.2)):=by
          unfold Cs.bO;rw[A2 hp,bJ hb,V];dsimp only;rw[cD];have:=h1.bL c;dsimp only at this;rw[this]
        generalize g:({S with bt:=S.bt.cJ id {p with refs:=0}} :Cs)=a at*
        have l:a.tree=S.tree:=by subst g;rfl
        have v:a.fr=S.fr:=by subst g;rfl
        have C:a.sl=S.sl:=by subst g;rfl
        have D:a.guards=S.guards:=by subst g;rfl
        have m:a.files=S.files:=by subst g;rfl
        have O:a.bt=S.bt.cJ id {p with refs:=0} :=by subst g;rfl
        rw[<- O]at c i;have E:a.bt.next=S.bt.next:=by rw[O];rfl
        clear g;rw[hr];dsimp only;by_cases hf:p.place=1
        · rw[bK hf,bK hf,bJ (by rw[hf];decide)]
          obtain⟨q,R,ab,q2,ai,aj,ad,ae⟩:=AY (S:=a) id {p with refs:=0} _ c;have k:=h1.clean id {p with refs:=0};obtain⟨L,M,Y,af,ag,ah,Z⟩:=wW (S:=a) id {p with refs:=0};have B:=HA (S:=a) c hf {p with refs:=0};have G:p.kf<0->(a.clean id {p with refs:=0}).files=a.files:=by
            intro hk;unfold Cs.clean;rw[bJ (λaa=>by have:0<=p.kf:=aa.1;omega)]
          have z:∀x,x≠id->(a.clean id {p with refs:=0}).bt.pg x=a.bt.pg x:=by
            intro x hx;unfold Cs.clean;split
            · show(a.bt.mark id false).1.pg x=_
              rw[(q3 _ _ _).2.2.2];cases a.bt.pg x<;>simp[hx]
            · rfl
          generalize a.clean id {p with refs:=0} =b at*
          have F:=k.toInv0.lO R (by rw[ab];exact hf) (lg:=b.log) k.log (K:=b.kept);have H:=k.toInv0.ny R;dsimp only;rw[H];have f:(b.bt.dS id q 0 0).pg id=some (q.to 0 0):=by rw[jB,bK rfl]
          rw[uu f (by show q.refs<=0;rw[ae];exact g2 _) rfl];have o:=F.lQ f rfl;have w:b.fr.du q.at_ (dk b.tree q.owner)=S.fr.du p.at_ (dk S.tree p.owner):=by rw[M,v,L,l,q2,ad]
          have t:b.fr.du p.at_ (a.chain p.owner)=S.fr.du p.at_ (dk S.tree p.owner):=by rw[M,v];unfold Cs.chain;rw[l]
          rw[w]at o;rw[t];refine⟨rfl,⟨o,λx r hr hk=>?_⟩,?_,λx=>?_,?_,?_,rfl,?_,?_,λhk=>?_⟩
          · obtain⟨hx,hr⟩:=m1 hr
            rw[jB,bJ hx]at hr;exact k.anon _ _ hr hk
          · show b.bt.next=_
            rw[B.next,E]
          · show cL (b.bt.dS id q 0 0).pg id none x=_
            by_cases hx:x=id;· subst hx;rw[j7,bK rfl]
            · rw[db _ _ hx,bJ hx,jB,bJ hx,z x hx,i x hx]
          · show b.tree=_;rw[L,l]
          · show b.guards=_;rw[Z,D]
          · show b.sl=_;rw[Y,C]
          · show b.files.bW=_;rw[B.bW,m]
          · show b.files=_;rw[G hk,m]
        · rw[bJ hf,bJ hf]
          by_cases u:p.place=2
          · rw[bK u,bK u]
            have F:=h1.toInv0.q0 c u;dsimp only;rw[h1.toInv0.ny c];have f:(a.bt.dS id {p with refs:=0} 0 0).pg id=some (Pg.to {p with refs:=0} 0 0):=by rw[jB,bK rfl]
            rw[uu f (g2 _) rfl];have o:=F.lQ f rfl;refine⟨rfl,⟨o,λx r hr hk=>?_⟩,E,λx=>?_,l,D,v,?_,by rw[m],λ_=>m⟩
            · obtain⟨hx,hr⟩:=m1 hr
              rw[jB,bJ hx]at hr;exact h1.anon _ _ hr hk
            · show cL (a.bt.dS id _ 0 0).pg id none x=_
              by_cases hx:x=id;· subst hx;rw[j7,bK rfl]
              · rw[db _ _ hx,bJ hx,jB,bJ hx,i x hx]
            · show a.sl.du p.at_ (a.chain p.owner)=_
              rw[C];unfold Cs.chain;rw[l]
          · rw[bJ u,bJ u]
            have j:p.place=0:=by omega
            rw[h1.toInv0.ny c];have f:(a.bt.dS id {p with refs:=0} 0 0).pg id=some (Pg.to {p with refs:=0} 0 0):=by rw[jB,bK rfl]
            rw[uu f (g2 _) rfl];have A:a.bt.dS id {p with refs:=0} 0 0=a.bt:=by
              have s:p.at_=0:=Q.2.2.2 j;have U:Pg.to {p with refs:=0} 0 0= {p with refs:=0} :=by
                show({p with refs:=0,place:=0,at_:=0} :Pg)= {p with refs:=0}
                cases p;simp only at j s;subst j s;rfl
              have I:a.bt.c0 (p.place,p.at_)=none:=by
                rw[j,s];cases T:a.bt.c0 (0,0)with
                |none=>rfl
                |some y=>
                  obtain⟨_,_,_,_,e⟩:=(h1.cH.spot 0 0 y).1 T;exact absurd rfl e
              unfold TS.dS;rw[U,bJ bN];have W:cL a.bt.pg id (some {p with refs:=0})=a.bt.pg:=by
                funext x;unfold cL;split;· next e=>rw[e,c]
                · rfl
              have X:cL a.bt.c0 (({p with refs:=0} :Pg).place,({p with refs:=0} :Pg).at_) none=a.bt.c0:=by
                funext x;unfold cL;split;· next e=>rw[e];exact I.symm
                · rfl
              rw[W,X]
            rw[A]at f ⊢;have o:=h1.toInv0.lQ c j;refine⟨rfl,⟨o,λx r hr hk=>h1.anon _ _ (m1 hr).2 hk⟩,E,λx=>?_,l,D,v,C,by rw[m],λ_=>m⟩;show cL a.bt.pg id none x=_;by_cases hx:x=id;· subst hx;rw[j7,bK rfl]
            · rw[db _ _ hx,bJ hx,i x hx]
def Inv.bO(h:Inv S)(id n:Int):Inv (S.bO id n).1:=by
 rcases nY h id n with⟨_,he⟩|⟨p,hp,⟨_,he⟩|⟨b,_,he⟩|⟨_,_,_,a,_⟩⟩
 ·rw[he];exact h
 ·rw[he];exact h
 ·rw[he];exact h.cJ hp rfl rfl rfl rfl (by show 0<=i64.wrap (p.refs+n);omega) rfl
 ·exact a
end Go.Kc
namespace Go.Kt
def HF{l l':bA G}:∀(g:Nat),(∀i,i<=g->((l'[i]?).map G.up)=((l[i]?).map G.up))->chain l' g=chain l g:=by
 intro g;induction g using Nat.strongRecOn with
 |_ g a=>
  intro h;rw[chain.eq_def l' g,chain.eq_def l g,h g (ek _)];split;·next b=>rw[a _ bu (λi c=>h i bu)]
  ·rfl
def HG{l:bA G}{n:Nat}:ds l n=((l[n]?).map G.live).getD false:=by
 unfold ds;rw[dF bu,dA];cases l[n]? <;>rfl
def HH{l:bA G}{g:Int}(h:g<0):ds l g=false:=by
 unfold ds;rw[dg bu];rfl
def HI{l:bA G}{x:G}{g:Int}(h:ds l g=true):ds (l++[x]) g=true:=by
 obtain⟨n,rfl,y,b,hl⟩:=iW.1 h;have a:=(cZ.1 b).1;exact iW.2 ⟨n,rfl,y,by rw[eM a];exact b,hl⟩
def UL{l:bA G}{x:G}{g:Int}(h:ds l g=true):dk (l++[x]) g=dk l g:=by
 unfold dk;rw[bK h,bK (HI h)];obtain⟨n,rfl,y,a,hl⟩:=iW.1 h;have b:=(cZ.1 a).1;rw[dA,HF (l:=l) (l':=l++[x]) n (λi c=>by rw[eM bu])]
def UM{l:bA G}{p:Int}(h:(gh l p).2.2=0):ds l p=true/\l.length<64/\gh l p=(l++[⟨p,true⟩],(l.length:Int),0):=by
 unfold gh at h ⊢;split at h;·cases h
 next h1=>
 rw[bJ h1];split at h;·cases h
 next h2=>
 rw[bJ h2];split at h;·cases h
 next a=>
 rw[bJ a];exact⟨by simpa using h1,bu,rfl⟩
def UN{l:bA G}{g:Int}(h:(iX l g).2=0):∃n:Nat,g=n/\0<n/\∃x,l[n]?=some x/\x.live=true/\kk l g= []/\iX l g=(l.set n ⟨x.up,false⟩,0):=by
 unfold iX at h ⊢;split at h;·cases h
 next h1=>
 rw[bJ h1];split at h;·cases h
 next h2=>
 rw[bJ h2];split at h;·cases h
 next a=>
 rw[bJ a];obtain⟨n,rfl,x,hx,hl⟩:=iW.1 (show ds l g=true by simpa using h2);refine⟨n,rfl,bu,x,hx,hl,by simpa using a,?_⟩;rw[dA,hx];rfl
variable{l:bA G}{n:Nat}{x:G}
def HJ(hx:l[n]?=some x)(g:Int):ds (l.set n ⟨x.up,false⟩) g=(ds l g&& !(g==(n:Int))):=by
 have a:=(cZ.1 hx).1;rcases Int.lt_or_le g 0 with h|h;·rw[HH h,HH h];rfl
 ·obtain⟨m,rfl⟩:∃m:Nat,g=m:=⟨g.toNat,bu⟩
  rw[HG,HG];by_cases e:n=m
  ·subst e;rw[jd a,hx];simp
  ·rw[iE e];have:((m:Int)==(n:Int))=false:=by simp;omega
   rw[this];simp
def UO(hx:l[n]?=some x)(g:Nat):chain (l.set n ⟨x.up,false⟩) g=chain l g:=by
 have a:=(cZ.1 hx).1;refine HF g (λi _=>?_);by_cases e:n=i;·subst e;rw[jd a,hx];rfl
 ·rw[iE e]
def HK(hx:l[n]?=some x){g:Int}(hl:ds l g=true)(a:g≠n):dk (l.set n ⟨x.up,false⟩) g=dk l g:=by
 unfold dk;rw[HJ hx,hl,bK rfl,bK (by simpa using a),UO hx]
def A3{g:Nat}(hl:ds l g=true):dk l g=(chain l g).map Int.ofNat:=by unfold dk;rw[bK hl,dA]
def UP(hw:WF l)(hk:kk l n= [])(hn:ds l n=true):∀(g:Nat),ds l g=true->g≠n->n∉chain l g:=by
 intro g;induction g using Nat.strongRecOn with
 |_ g k=>
  intro hl d hm;obtain⟨a,e,y,b,h⟩:=iW.1 hl;have e:a=g:=by omega
  subst e;rcases k2 a with c|c;·subst c;rw[tJ,ia]at hm;exact d hm.symm
  ·have hu:=hw.up a y b c;rw[rL hw b c]at hm;rcases ew.1 hm with e|hm;·exact d e.symm
   ·by_cases e:y.up.toNat=n
    ·have f:=(cZ.1 b).1;have:(a:Int)∈kk l n:=by
      unfold kk nS;rw[bK hn];refine fA.2 ⟨a,gG.2 ⟨gn.2 f,?_⟩,rfl⟩;rw[dy];refine⟨hl,?_⟩;show(((l[a]?).map G.up).getD (-1)==(n:Int))=true;rw[b];simp only[gg,mI,tH];omega
     rw[hk]at this;cases this
    ·obtain⟨z,i⟩:∃z,l[y.up.toNat]?=some z:=⟨_,dO (by have:=(cZ.1 b).1;omega)⟩
     have j:=hw.live a y z b c h i;exact k _ bu (iW.2 ⟨_,rfl,z,i,j⟩) e hm
end Go.Kt
namespace Go.Kc
open Go Go.Kt Go.Sp
variable{S:Cs}
def ik.tree{T:TS}{tree a:bA G}{s:eY}{pl:Int}(h:ik T tree s pl)(d:∀x p,T.pg x=some p->dk a p.owner=dk tree p.owner):ik T a s pl:=by
 refine⟨h.fk,h.len,h.used,h.taken,λg c b=>?_,h.all⟩;rw[h.use g c b];congr 1;refine(uo rfl (λx=>?_)).symm;cases hp:T.pg x with
 |none=>rfl
 |some p=>unfold pB below;dsimp only;rw[d x p hp]
def Inv.cn(h:Inv S)(p:Int):Inv (S.cn p).1:=by
 unfold Cs.cn;dsimp only;split
 ·next c=>
  obtain⟨hl,d,he⟩:=UM c;have hw:=Te h.wf p;rw[he]at hw ⊢;dsimp only at hw ⊢;have b:∀x q,S.bt.pg x=some q->dk (S.tree++[⟨p,true⟩]) q.owner=dk S.tree q.owner:=λx q a=>UL (h.own _ _ a);exact {h with wf:=hw,gl:=by show(S.guards++[_]).length=(S.tree++[_]).length;rw[dd,dd,h.gl];rfl,own:=λx q a=>HI (h.own _ _ a),fr:=h.fr.tree b,sl:=h.sl.tree b}
 ·exact h
def Inv.oI(h:Inv S){l:bA eD}(hl:l.length=S.guards.length):Inv {S with guards:=l} :={h with gl:=by show l.length=_;rw[hl];exact h.gl}
def Inv.cB(h:Inv S)(g what n:Int):Inv (S.cB g what n).1:=by
 have b:∀x,Inv (S.iL g x):=λx=>h.oI (by simp);have c:∀ {T:TS} {tree:bA G} {s:eY} {pl:Int},ik T tree s pl->ik T tree {s with used:=(j6 s.used g n).1} pl:=by
  intro T tree s pl a;exact⟨a.fk,a.len,a.used.kx g n,a.taken,λx hx d=>by rw[<- a.use x hx d];exact Ux a.used.len g n x,a.all⟩
 unfold Cs.cB;split;·exact h
 split;·exact h
 split;·exact b _
 split;·exact b _
 split;·exact {h with fr:=c h.fr}
 split;·exact {h with sl:=c h.sl}
 split
 ·split;·exact h
  ·exact b _
 ·exact h
def HL(T:TS)(id o:Int):(T.own id o).1.next=T.next/\(T.own id o).1.files=T.files/\(T.own id o).1.c0=T.c0/\∀x,(T.own id o).1.pg x=(T.pg x).map λp=>if x=id then {p with owner:=o} else p:=by
 unfold TS.own;cases hp:T.pg id with
 |none=>
  refine⟨rfl,rfl,rfl,λx=>?_⟩;by_cases e:x=id;·subst e;simp[hp]
  ·cases T.pg x<;>simp[e]
 |some p=>
  refine⟨rfl,rfl,rfl,λx=>?_⟩;show cL T.pg id (some _) x=_;by_cases e:x=id;·subst e;rw[j7,hp];simp
  ·rw[db _ _ e];cases T.pg x<;>simp[e]
def q5(o:Int):∀(ids:bS) (T:TS),(T.dv ids o).next=T.next/\(T.dv ids o).files=T.files/\(T.dv ids o).c0=T.c0/\∀x,(T.dv ids o).pg x=(T.pg x).map λp=>if x∈ids then {p with owner:=o} else p
 |[],T=>⟨rfl,rfl,rfl,λx=>by show T.pg x=_;cases T.pg x<;>simp⟩
 |id::ids,T=>by
  obtain⟨c,d,a3,a4⟩:=HL T id o;obtain⟨b1,b2,b3,b4⟩:=q5 o ids (T.own id o).1;refine⟨b1.trans c,b2.trans d,b3.trans a3,λx=>(b4 x).trans ?_⟩;rw[a4];cases T.pg x with
  |none=>rfl
  |some p=>
   simp only[gg,fS,ew];by_cases a:x=id;·by_cases b:x∈ids<;>simp[a]
   ·by_cases b:x∈ids<;>simp[a,b]
def A4{T:TS}(a:hI T){g x:Int}:x∈T.eo g↔∃p,T.pg x=some p/\p.owner=g:=by
 unfold TS.eo;rw[fA];constructor
 ·rintro⟨n,hn,rfl⟩;rw[gG]at hn;obtain⟨_,hn⟩:=hn;show ∃p,T.pg (n:Int)=some p/\_;cases hp:T.pg (n:Int)with
  |none=>rw[hp]at hn;cases hn
  |some p=>rw[hp]at hn;exact⟨p,rfl,by simpa using hn⟩
 ·rintro⟨p,hp,ho⟩;have:=a.ids _ _ hp;refine⟨x.toNat,gG.2 ⟨gn.2 bu,?_⟩,by show((x.toNat:Nat):Int)=x;omega⟩;have e:((x.toNat:Nat):Int)=x:=by omega
  rw[e,hp];simpa using ho
def w4{T:TS}(a:hI T)(g o x:Int):(T.dv (T.eo g) o).pg x=(T.pg x).map λp=>if p.owner=g then {p with owner:=o} else p:=by
 rw[(q5 o _ T).2.2.2 x];cases hp:T.pg x with
 |none=>rfl
 |some p=>
  simp only[gg,fS];by_cases e:p.owner=g;·rw[bK e,bK ((A4 a).2 ⟨p,hp,e⟩)]
  ·rw[bJ e,bJ (λhm=>by
    obtain⟨q,b,c⟩:=(A4 a).1 hm;rw[hp]at b;exact e (by rw[cR b];exact c))]
def hI.uv{T:TS}(f:hI T)(g o:Int):hI (T.dv (T.eo g) o):=by
 have h:=w4 f g o;obtain⟨h1,h2,i,_⟩:=q5 o (T.eo g) T;generalize T.dv (T.eo g) o=T' at*
 have hf:∀ {x q},T'.pg x=some q->∃p,T.pg x=some p/\q.place=p.place/\q.at_=p.at_/\q.kf=p.kf/\q.ki=p.ki/\q.refs=p.refs:=by
  intro x q b;rw[h]at b;cases hp:T.pg x with
  |none=>rw[hp]at b;cases b
  |some p=>
   rw[hp]at b;have:=cR b;subst this;refine⟨p,rfl,?_,?_,?_,?_,?_⟩<;>(dsimp only;split<;>rfl)
 have hb:∀ {x p},T.pg x=some p->∃q,T'.pg x=some q/\q.place=p.place/\q.at_=p.at_/\q.kf=p.kf/\q.ki=p.ki:=by
  intro x p hp;rw[h,hp];refine⟨_,rfl,?_,?_,?_,?_⟩<;>(dsimp only;split<;>rfl)
 refine⟨by rw[h1];exact f.next,λx q b=>?_,λpl a x=>?_,λkf ki x=>?_,λx q b=>?_⟩
 ·obtain⟨p,hp,_⟩:=hf b;rw[h1];exact f.ids _ _ hp
 ·rw[i,f.spot];constructor
  ·rintro⟨p,hp,c,d,e⟩;obtain⟨q,b,f1,f2,_⟩:=hb hp;exact⟨q,b,by rw[f1,c],by rw[f2,d],e⟩
  ·rintro⟨q,b,c,d,e⟩;obtain⟨p,hp,f1,f2,_⟩:=hf b;exact⟨p,hp,by rw[<- f1,c],by rw[<- f2,d],e⟩
 ·rw[h2,f.file];constructor
  ·rintro⟨p,hp,c,d,e⟩;obtain⟨q,b,_,_,f1,f2⟩:=hb hp;exact⟨q,b,by rw[f1,c],by rw[f2,d],e⟩
  ·rintro⟨q,b,c,d,e⟩;obtain⟨p,hp,_,_,f1,f2,_⟩:=hf b;exact⟨p,hp,by rw[<- f1,c],by rw[<- f2,d],e⟩
 ·obtain⟨p,hp,f1,f2,_,_,f5⟩:=hf b;have:=f.pl _ _ hp;rw[f1,f2,f5];exact this
def UQ{C:bA eP}(b:hz C){g:Int}(c:0<=g/\g<64)(x:Int):cT (gj C [g] (cT C g)).1 x=if x=g then 0 else cT C x:=by
 have ho:=(b.of g).1;have hr:jj [g] (cT C g)=true:=mZ.2 ⟨λy a=>by rw[ia]at a;subst a;exact c,by simp,ho⟩;rw[r6 hr (λy a=>by rw[ia]at a;subst a;exact g2 _)];show cT (dG C [g] (-(cT C g))) x=_;rw[po b.len (λy a=>by rw[ia]at a;subst a;exact c) (by simp)];by_cases e:x=g;·subst e;simp;omega
 ·simp[e]
def ik.gone{T:TS}(I:hI T){tree:bA G}(hw:WF tree){s:eY}{pl:Int}(h:ik T tree s pl)(j:∀x p,T.pg x=some p->ds tree p.owner=true){n:Nat}{x:G}(v:0<n)(hx:tree[n]?=some x)(hl:x.live=true)(hk:kk tree n= []):
  ik (T.dv (T.eo n) x.up) (tree.set n ⟨x.up,false⟩) {s with used:=(gj s.used [(n:Int)] (cT s.used n)).1} pl:=by
 have K:=(cZ.1 hx).1;have J:=hw.fk;have hn:ds tree n=true:=iW.2 ⟨n,rfl,x,hx,hl⟩;have hu:=hw.up n x hx v;obtain⟨z,F⟩:∃z,tree[x.up.toNat]?=some z:=⟨_,dP⟩
 have H:=hw.live n x z hx v hl F;have u:((x.up.toNat:Nat):Int)=x.up:=by omega
 have t:ds tree x.up=true:=by rw[<- u];exact iW.2 ⟨_,rfl,z,F,H⟩
 have w:x.up≠(n:Int):=by omega
 have f:=w4 I n x.up;have r:=(q5 x.up (T.eo n) T).1;generalize T.dv (T.eo n) x.up=T' at*
 have o:dk tree n=(n:Int)::dk tree x.up:=by
  rw[A3 hn,rL hw hx v];rw[show dk tree x.up=dk tree ((x.up.toNat:Nat):Int) by rw[u],A3 (by rw[u];exact t)];rfl
 have D:(n:Int)∉dk tree x.up:=by
  have:=(qS hw hn).2.1;rw[o,rH]at this;exact this.1
 have key:∀(y:Int) (g:Int),pB (T'.pg y) pl (below (tree.set n ⟨x.up,false⟩) g)=(pB (T.pg y) pl (below tree g)&& !(g==(n:Int))):=by
  intro y g;rw[f];cases hp:T.pg y with
  |none=>rfl
  |some p=>
   simp only[gg];unfold pB below;dsimp only;by_cases e:p.owner=(n:Int)
   ·rw[bK e];dsimp only;rw[HK hx t w,e,o];by_cases c:g=(n:Int)
    ·subst c;have:(dk tree x.up).contains (n:Int)=false:=by simpa using D
     rw[this];simp
    ·have:(g==(n:Int))=false:=by simpa using c
     rw[List.contains_cons,this];simp
   ·rw[bJ e,HK hx (j _ _ hp) e];by_cases c:g=(n:Int)
    ·subst c;have:(dk tree p.owner).contains (n:Int)=false:=by
      have d:=j _ _ hp;obtain⟨m,hm,_⟩:=iW.1 d;rw[hm]at d ⊢;have:=UP hw hk hn m d (λb=>e (by rw[hm,b]));rw[A3 d];simp only[List.contains_eq_mem,FN,fA,not_exists,not_and];intro y E b;have b:(y:Int)=(n:Int):=b;rw[show y=n by omega]at E;exact this E
     rw[this];simp
    ·have:(g==(n:Int))=false:=by simpa using c
     rw[this];simp
 have A:∀(y:Int),pB (T'.pg y) pl (λ_=>true)=pB (T.pg y) pl (λ_=>true):=by
  intro y;rw[f];cases hp:T.pg y with
  |none=>rfl
  |some p=>simp only[gg];unfold pB;dsimp only;split<;>rfl
 refine⟨h.fk,h.len,h.used.du _ _,λa=>?_,λg c B=>?_,by rw[h.all];exact(uo r A).symm⟩
 ·rw[h.taken a];constructor
  ·rintro⟨y,p,hp,l,b⟩;refine⟨y,(if p.owner=(n:Int)then {p with owner:=x.up} else p),by rw[f,hp];rfl,?_,?_⟩
   ·split;·exact l
    ·exact l
   ·split;·exact b
    ·exact b
  ·rintro⟨y,q,k,l,b⟩;rw[f]at k;cases hp:T.pg y with
   |none=>rw[hp]at k;cases k
   |some p=>
    rw[hp]at k;have:=cR k;subst this;refine⟨y,p,hp,?_,?_⟩;·rw[<- l];dsimp only;split<;>rfl
    ·rw[<- b];dsimp only;split<;>rfl
 ·show cT (gj s.used [(n:Int)] (cT s.used n)).1 g=_;rw[UQ h.used ⟨bu,bu⟩];by_cases e:g=(n:Int)
  ·rw[bK e];have:jn T' pl (below (tree.set n ⟨x.up,false⟩) g)=0:=by
    unfold jn;refine Uv.2 (λi L=>?_);have:=key (i:Int) g;rw[e]at this ⊢;simp only[tz,Bool.not_true,rJ]at this;exact this
   rw[this];rfl
  ·rw[bJ e,h.use g c B];have C:(g==(n:Int))=false:=by simpa using e
   congr 1;refine(uo r (λy=>?_)).symm;rw[key,C];simp
def UR{R:bA dw}{f t:Int}(d:0<=t/\t<=16777216){x o:Int}:(∃e∈(mV R f t).1,e.id=x/\e.group=o)↔∃e∈R,e.id=x/\(if e.group=f then t else e.group)=o:=by
 unfold mV;rw[cD];have c:∀e:dw,(jN f (λ_ a=>(t,a)) e).group=if e.group=f then t else e.group:=λe=>by unfold jN;split<;>rfl
 constructor
 ·rintro⟨e,he,rfl,rfl⟩;obtain⟨y,b,rfl⟩:=fA.1 he;exact⟨y,b,(r3 _ _ y).symm,(c y).symm⟩
 ·rintro⟨y,b,rfl,rfl⟩;exact⟨_,fA.2 ⟨y,b,rfl⟩,r3 _ _ y,c y⟩
def Inv.remove(h:Inv S)(g:Int):Inv (S.remove g).1:=by
 unfold Cs.remove;dsimp only;split
 ·next t=>
  obtain⟨n,rfl,hn,x,hx,b,hk,he⟩:=UN t;have hw:=Tf h.wf (n:Int);rw[he]at hw ⊢;dsimp only at hw ⊢;have w:=(cZ.1 hx).1;have u:=h.wf.fk;have j:ds S.tree n=true:=iW.2 ⟨n,rfl,x,hx,b⟩;have l:pa S.tree n=x.up:=by unfold pa;rw[bK j,dA,hx];rfl
  rw[l];have hu:=h.wf.up n x hx hn;obtain⟨z,m⟩:∃z,S.tree[x.up.toNat]?=some z:=⟨_,dP⟩
  have r:=h.wf.live n x z hx hn b m;have s:((x.up.toNat:Nat):Int)=x.up:=by omega
  have k:ds S.tree x.up=true:=by rw[<- s];exact iW.2 ⟨_,rfl,z,m,r⟩
  have d:=w4 h.cH n x.up;have hf:∀ {y q},(S.bt.dv (S.bt.eo n) x.up).pg y=some q->∃p,S.bt.pg y=some p/\q=if p.owner=(n:Int)then {p with owner:=x.up} else p:=by
   intro y q a;rw[d]at a;cases hp:S.bt.pg y with
   |none=>rw[hp]at a;cases a
   |some p=>rw[hp]at a;exact⟨p,rfl,(cR a).symm⟩
  refine⟨⟨hw,by show S.guards.length=(S.tree.set n _).length;rw[dW];exact h.gl,h.cH.uv n x.up,λy q a=>?_,h.fr.gone h.cH h.wf h.own hn hx b hk,h.sl.gone h.cH h.wf h.own hn hx b hk,h.ep.move _ _,λy o=>?_,h.log,λy q a=>?_,h.qT,?_⟩,λy q a hk=>?_⟩
  ·obtain⟨p,hp,rfl⟩:=hf a;show ds (S.tree.set n ⟨x.up,false⟩) _=true;rw[HJ hx];split
   ·dsimp only;rw[k];simp;omega
   ·next e=>
    rw[show ds S.tree p.owner=true from h.own _ _ hp];simpa using e
  ·show(∃e∈(mV S.bP n x.up).1,_)↔∃q,(S.bt.dv (S.bt.eo n) x.up).pg y=some q/\_;rw[UR ⟨hu.1,bu⟩];constructor
   ·rintro⟨e,he,f,i⟩;obtain⟨p,hp,c,p2⟩:=(h.gen y e.group).1 ⟨e,he,f,rfl⟩;refine⟨_,by rw[d,hp];rfl,?_,?_⟩
    ·dsimp only;split;·exact c
     ·exact c
    ·dsimp only;rw[p2,<- i];split;·rfl
     ·exact p2
   ·rintro⟨q,a,v,q2⟩;obtain⟨p,hp,rfl⟩:=hf a;have c:p.place=1:=by rw[<- v];split<;>rfl
    obtain⟨e,he,f,i⟩:=(h.gen y p.owner).2 ⟨p,hp,c,rfl⟩;refine⟨e,he,f,?_⟩;rw[i,<- q2];split<;>rfl
  ·obtain⟨p,hp,rfl⟩:=hf a;have:=h.ky _ _ hp;split;·exact this
   ·exact this
  ·show(S.bt.dv (S.bt.eo n) x.up).next<=_;rw[(q5 x.up _ _).1];exact h.ids
  ·obtain⟨p,hp,rfl⟩:=hf a;have:=h.anon _ _ hp;revert hk;split;·exact this
   ·exact this
 ·exact h
end Go.Kc
namespace Go.Kc
open Go Go.Kt Go.Sp
structure Act where
 k:Int
 a:Int
 b:Int
 c:Int
 kf:Int
 ki:Int
def Cs.act(S:Cs)(x:Act):Cs×Int×Int×Int:=
 let k:=x.k.tmod 12
 if k=0 then let r:=S.cn x.a;(r.1,r.2.1,0,r.2.2)
 else if k=1 then let r:=S.remove x.a;(r.1,0,0,r.2)
 else if k=2 then let r:=S.cB x.a x.b x.c;(r.1,0,0,r.2)
 else if k=3 then S.fresh x.a
 else if k=4 then S.cA (x.kf,x.ki) x.a
 else if k=5 then let r:=S.bX x.b x.a;(r.1,r.2.1,0,r.2.2)
 else if k=6 then S.copy x.b x.a
 else if k=7 then let r:=S.put x.b x.a (mh x.c);(r.1,0,0,r.2)
 else if k=8 then let r:=S.get x.b x.a;(r.1,r.2.1,0,r.2.2)
 else if k=9 then let r:=S.bO x.b x.c;(r.1,0,0,r.2)
 else if k=10 then let r:=S.dt x.a;(r.1,r.2,0,0)
 else let r:=S.shrink x.a x.c;(r.1,r.2,0,0)
def iM{α:Type}{P:α->Prop}{c:Prop}[Decidable c]{a b:α}(h1:c->P a)(h2:¬ c->P b):P (if c then a else b):=by
 by_cases h:c;·rw[bK h];exact h1 h
 ·rw[bJ h];exact h2 h
def w5{P:Cs×Int×Int×Int->Prop}(S:Cs)(x:Act)(c:x.k.tmod 12=0->P ((S.cn x.a).1,(S.cn x.a).2.1,0,(S.cn x.a).2.2))(h1:x.k.tmod 12=1->P ((S.remove x.a).1,0,0,(S.remove x.a).2))(h2:x.k.tmod 12=2->P ((S.cB x.a x.b x.c).1,0,0,(S.cB x.a x.b x.c).2))(d:x.k.tmod 12=3->P (S.fresh x.a))(e:x.k.tmod 12=4->P (S.cA (x.kf,x.ki) x.a))(f:x.k.tmod 12=5->P ((S.bX x.b x.a).1,(S.bX x.b x.a).2.1,0,(S.bX x.b x.a).2.2))(g:x.k.tmod 12=6->P (S.copy x.b x.a))(h:x.k.tmod 12=7->P ((S.put x.b x.a (mh x.c)).1,0,0,(S.put x.b x.a (mh x.c)).2))(i:x.k.tmod 12=8->P ((S.get x.b x.a).1,(S.get x.b x.a).2.1,0,(S.get x.b x.a).2.2))(j:x.k.tmod 12=9->P ((S.bO x.b x.c).1,0,0,(S.bO x.b x.c).2))(a:x.k.tmod 12=10->P ((S.dt x.a).1,(S.dt x.a).2,0,0))(b:(¬ x.k.tmod 12=0/\¬ x.k.tmod 12=1/\¬ x.k.tmod 12=2/\¬ x.k.tmod 12=3/\¬ x.k.tmod 12=4/\¬ x.k.tmod 12=5/\¬ x.k.tmod 12=6/\¬ x.k.tmod 12=7/\¬ x.k.tmod 12=8/\¬ x.k.tmod 12=9/\¬ x.k.tmod 12=10)->P ((S.shrink x.a x.c).1,(S.shrink x.a x.c).2,0,0)):P (S.act x):=by
 unfold Cs.act;exact iM c (λk=>iM h1 (λl=>iM h2 (λm=>iM d (λn=>iM e (λo=>iM f (λn5=>iM g (λn6=>iM h (λn7=>iM i (λn8=>iM j (λn9=>iM a (λn10=>b ⟨k,l,m,n,o,n5,n6,n7,n8,n9,n10⟩)))))))))))
variable{S:Cs}
def Inv.act(h:Inv S)(hn:S.bt.next<16777216)(x:Act):Inv (S.act x).1:=by
 exact w5 (P:=λr=>Inv r.1) S x (λ_=>h.cn _) (λ_=>h.remove _) (λ_=>h.cB _ _ _) (λ_=>h.fresh hn _) (λ_=>h.cA hn _ _) (λ_=>h.bX _ _) (λ_=>h.copy hn _ _)
  (λ_=>h.put _ _ _) (λ_=>h.get _ _) (λ_=>h.bO _ _) (λ_=>h.dt _) (λ_=>h.shrink _ _)
def HM{t:Int}:∀(l:bA (Int×Int)) {S:Cs},Inv S->eG S (cr t l S).1
 |[],S,_=>.refl S
 |(g,k)::l,S,h=>by
  have e:∀(n:Nat) {S:Cs},Inv S->eG S (da t [g] n S).1:=by
   intro n;induction n with
   |zero=>intro S _;exact .refl S
   |succ n a=>intro S h;exact(eG.cM h t [g] false).trans (a (h.cM t [g] false))
  exact(e k.toNat h).trans (HM l (Inv.da k.toNat h))
def HN{t:Int}:∀(n:Nat) {S:Cs},Inv S->eG S (dB t n S).1
 |0,S,_=>.refl S
 |n+1,S,h=>by
  unfold dB;dsimp only;split;·exact(eG.cM h t _ _).trans (HN n (h.c1 t))
  ·exact eG.cM h t _ _
def A5(h:Inv S)(t n:Int):eG S (S.shrink t n).1:=by
 unfold Cs.shrink;split;·exact .refl S
 ·exact(HM _ h).trans (HN _ (Inv.cr _ h))
def HO(h:Inv S)(hn:S.bt.next<16777216){g:Int}(hl:S.live g=true)(text:bA UInt8):S.bt.next<=(S.c8 g text).1.bt.next/\(S.c8 g text).1.bt.next<=S.bt.next+1:=by
 rcases wZ h hn hl text with⟨S0,a,k,he,_,_⟩|⟨S0,t,k,he⟩
 ·have hk:=k.outs.kept h;have b:=k.outs.inv h;have hm:=q4 S0.bt (kf:= -1) (ki:=0) (o:=g) ⟨b.cH.next,by rw[hk.next];exact hn⟩ (.inl bN);have:(S.c8 g text).1.bt.next=S.bt.next+1:=by
   rw[he];show(((S0.bt.make (-1) 0 g).1.own S0.bt.next g).1.put S0.bt.next 1 a).1.next=_;have h1:∀(T:TS) (id pl x:Int),(T.put id pl x).1.next=T.next:=by
    intro T id pl x;unfold TS.put;split;·rfl
    ·split;·rfl
     ·split<;>rfl
   rw[h1,(HL _ _ _).1,hm.2.1,hk.next]
  omega
 ·rw[he];have:=(k.outs.kept h).next;show S.bt.next<=S0.bt.next/\S0.bt.next<=_;omega
def w6(h:Inv0 S)(b:∀x p,S.bt.pg x=some p->p.kf<0->p.place≠0)(id g:Int):(S.bX id g).1.bt.next=S.bt.next:=by
 have d:Inv S:=⟨h,b⟩
 cases hp:S.bt.pg id with
 |none=>rw[pw h (.inl hp)]
 |some p=>
  cases hl:S.live g with
  |false=>rw[pw h (.inr (.inl hl))]
  |true=>
   by_cases c:p.place=0/\p.kf<0;·rw[pw h (.inr (.inr ⟨p,hp,c⟩))]
   ·by_cases h1:p.place=1;·rw[w1 h hp h1 hl]
    ·rcases ur h b hp hl c h1 with⟨S0,a,k,e⟩|⟨S0,t,k,he⟩
     ·exact k.next
     ·rw[he];exact(k.outs.kept d).next
def gz(h:Inv S)(hn:S.bt.next<16777216)(x:Act):S.bt.next<=(S.act x).1.bt.next/\(S.act x).1.bt.next<=S.bt.next+1:=by
 have same:∀ {T:TS},T.next=S.bt.next->S.bt.next<=T.next/\T.next<=S.bt.next+1:=λe=>bu
 refine w5 (P:=λr=>S.bt.next<=r.1.bt.next/\r.1.bt.next<=S.bt.next+1) S x (λ_=>?_) (λ_=>?_) (λ_=>?_) (λ_=>?_) (λ_=>?_) (λ_=>?_) (λ_=>?_) (λ_=>?_) (λ_=>?_) (λ_=>?_) (λ_=>?_) (λ_=>?_);·refine same ?_;unfold Cs.cn;dsimp only;split<;>rfl
 ·refine same ?_;unfold Cs.remove;dsimp only;split;·exact(q5 _ _ _).1
  ·rfl
 ·refine same ?_;unfold Cs.cB Cs.iL;repeat' split
  all_goals rfl
 ·unfold Cs.fresh;split;·exact same rfl
  ·next hl=>exact HO h hn (by simpa using hl) _
 ·unfold Cs.cA;dsimp only;split;·exact same rfl
  ·next d=>
   have hl:S.live x.a=true:=by
    cases a:S.live x.a with
    |true=>rfl
    |false=>exact absurd (.inr a) d
   have hf:ec S.files (x.kf,x.ki)=true:=by
    cases a:ec S.files (x.kf,x.ki)with
    |true=>rfl
    |false=>exact absurd (.inl a) d
   by_cases hm:S.bt.of (x.kf,x.ki)<0
   ·rw[dF hm];simp only[g3];have g:=w3 hf;have i:=q4 S.bt (kf:=x.kf) (ki:=x.ki) (o:=x.a) ⟨h.cH.next,hn⟩ (.inr hm);have k:=h.toInv0.make hn (kf:=x.kf) (ki:=x.ki) hl (.inr ⟨hm,hf⟩);have j:g5 S.bt x.kf x.ki=(x.kf,x.ki):=by unfold g5;rw[bJ (by have:0<=x.kf:=g;omega)]
    have c:∀y p,(S.bt.make x.kf x.ki x.a).1.pg y=some p->p.kf<0->p.place≠0:=by
     intro y q f b;rw[i.2.2]at f;split at f
     ·rw[<- cR f,j]at b;have:x.kf<0:=b;have:0<=x.kf:=g;omega
     ·exact h.anon _ _ f b
    have hb:=w6 k c (S.bt.make x.kf x.ki x.a).2.1 x.a;have hb:(Cs.bX {S with bt:=(S.bt.make x.kf x.ki x.a).1} (S.bt.make x.kf x.ki x.a).2.1 x.a).1.bt.next=S.bt.next+1:=by rw[hb];exact i.2.1
    have l:∀(T:TS) (id:Int),(T.drop id).1.next=T.next:=by
     intro T id;unfold TS.drop;split;·rfl
     ·split<;>rfl
    split;·rw[hb];omega
    ·show _<=((Cs.bX _ _ _).1.bt.drop _).1.next/\((Cs.bX _ _ _).1.bt.drop _).1.next<=_;rw[l,hb];omega
   ·rw[dg hm];simp only[l4,gR];have:=w6 h.toInv0 h.anon (S.bt.of (x.kf,x.ki)) x.a;split<;>exact same this
 ·exact same (w6 h.toInv0 h.anon _ _)
 ·unfold Cs.copy;dsimp only;split;·exact same rfl
  ·next hl=>
   have hl:S.live x.a=true:=by
    cases d:S.live x.a with
    |true=>rfl
    |false=>exact absurd (.inr (.inl d)) hl
   exact HO h hn hl _
 ·refine same ?_;unfold Cs.put;dsimp only;split;·rfl
  ·split;·exact(q3 _ _ _).1
   ·rfl
 ·refine same ?_;unfold Cs.get;dsimp only;split;·rfl
  ·dsimp only;split<;>rfl
 ·refine same ?_;rcases nY h x.b x.c with⟨_,he⟩|⟨p,hp,⟨_,he⟩|⟨_,_,he⟩|⟨_,_,_,_,he,_⟩⟩
  ·rw[he]
  ·rw[he]
  ·rw[he];rfl
  ·exact he
 ·exact same rfl
 ·exact same ((A5 h _ _).kept h).next
end Go.Kc
namespace Go.Kv
open Go Go.Vc Go.Sp
def RT:Nat->Type
 |0=>bA (bV Nat)
 |n+1=>bA (bV (Nat×RT n))
def hasB:bA Bool->Nat
 |[]=>0
 |b::r=>(if b then 1 else 0)+2*hasB r
def mm(ks:bA (bV Nat)):bA bE:=ks.map λk=>.pointer (k.map λb=>⟨b,0,none⟩)
def m2(ws:bA (bV Nat)):bA bE:=ws.map λx=>.int .u64 ((x.getD 0:Nat):Int)
def gq(ks ws:bA (bV Nat))(h:Nat):bA bE:=mm ks++(m2 ws++[.int .u16 (h:Int)])
def dz:bA (bV Nat):=List.replicate 16 none
def RT.vs:(n:Nat)->RT n->bA bE
 |0,ws=>gq dz ws (hasB (List.map Option.isSome (ws:bA (bV Nat))))
 |n+1,ks=>gq (List.map (Option.map Prod.fst) (ks:bA (bV (Nat×RT n)))) dz (hasB (List.map Option.isSome (ks:bA (bV (Nat×RT n)))))
def RT.zero:(n:Nat)->RT n
 |0=>(List.replicate 16 none:bA (bV Nat))
 |n+1=>(List.replicate 16 none:bA (bV (Nat×RT n)))
def RT.look:(n:Nat)->RT n->Nat->bV Nat
 |0,ws,p=>List.getD (ws:bA (bV Nat)) (p%16) none
 |n+1,ks,p=>match List.getD (ks:bA (bV (Nat×RT n))) (p/16^(n+1)%16) none with
  |none=>none
  |some (_,t)=>RT.look n t p
def RT.ok:(n:Nat)->RT n->Prop
 |0,ws=>List.length (ws:bA (bV Nat))=16
 |n+1,ks=>List.length (ks:bA (bV (Nat×RT n)))=16/\∀(i b:Nat) (t:RT n),List.getD (ks:bA (bV (Nat×RT n))) i none=some (b,t)->RT.ok n t
def dI:(n:Nat)->Nat->RT n->ct
 |0,b,ws=>[bC b (RT.vs 0 ws)]
 |n+1,b,ks=>bC b (RT.vs (n+1) ks)::List.flatMap (λk:bV (Nat×RT n)=>match k with|none=>[]|some (a,t)=>dI n a t) (ks:bA (bV (Nat×RT n)))
def e2(n:Nat)(k:bV (Nat×RT n)):ct:=match k with|none=>[]|some (a,t)=>dI n a t
def j8(n:Nat)(ks:bA (bV (Nat×RT n)))(d:Nat):ct:=(ks.take d).flatMap (e2 n)++(ks.drop (d+1)).flatMap (e2 n)
def HP(n b:Nat)(ks:bA (bV (Nat×RT n))):dI (n+1) b ks=bC b (RT.vs (n+1) ks)::ks.flatMap (e2 n):=rfl
def r9{α β:Type}{f:α->bA β}:∀ {l:bA α} {d:Nat} {x:α},l[d]?=some x->l.flatMap f=(l.take d).flatMap f++(f x++(l.drop (d+1)).flatMap f)
 |[],_,_,h=>by cases h
 |a::l,0,x,h=>by cases h;simp
 |a::l,d+1,x,h=>by
  have:=r9 (f:=f) (l:=l) (d:=d) h;rw[nQ,this,List.take_succ_cons,nQ,List.drop_succ_cons,dj]
def RT.lR:∀n,RT.ok n (RT.zero n)
 |0=>by show(List.replicate 16 (none:bV Nat)).length=16;simp
 |n+1=>by
  refine⟨?_,λi b t h=>?_⟩;·show(List.replicate 16 (none:bV (Nat×RT n))).length=16;simp
  ·have h:List.getD (List.replicate 16 (none:bV (Nat×RT n))) i none=some (b,t):=h;rw[dJ,om]at h;split at h<;>cases h
def RT.jD:∀(n p:Nat),RT.look n (RT.zero n) p=none
 |0,p=>by
  show(List.replicate 16 (none:bV Nat)).getD (p%16) none=none;rw[dJ,om];split<;>rfl
 |n+1,p=>by
  have:List.getD (List.replicate 16 (none:bV (Nat×RT n))) (p/16^(n+1)%16) none=none:=by
   rw[dJ,om];split<;>rfl
  show(match List.getD (List.replicate 16 (none:bV (Nat×RT n))) (p/16^(n+1)%16) none with|none=>none|some (_,t)=>RT.look n t p)=none;rw[this]
variable{E:Env}{L:ct}{w:bI}
def dI.open{n b d a:Nat}{ks:bA (bV (Nat×RT n))}{t:RT n}(hk:ks[d]?=some (some (a,t)))(h:Sep E (dI (n+1) b ks++L) w):Sep E (dI n a t++(bC b (RT.vs (n+1) ks)::(j8 n ks d++L))) w:=by
 rw[HP,r9 hk]at h;refine h.perm ?_;unfold j8;show((bC b (RT.vs (n+1) ks)::(List.flatMap (e2 n) (ks.take d)++(dI n a t++List.flatMap (e2 n) (ks.drop (d+1)))))++L).Perm _;generalize List.flatMap (e2 n) (ks.take d)=A;generalize List.flatMap (e2 n) (ks.drop (d+1))=B;generalize dI n a t=C;generalize bC b (RT.vs (n+1) ks)=X;simp only[o5,dj];refine(List.Perm.cons X ?_).trans jf.symm;have:(A++(C++(B++L))).Perm (C++(A++(B++L))):=by
  have h1:=rE (B++L) (l1 (l₁:=A) (l₂:=C));rwa[dj,dj]at h1
 exact this
def dI.shut{n b d a:Nat}{ks:bA (bV (Nat×RT n))}{t:RT n}(f:d<ks.length)(h:Sep E (dI n a t++(bC b (RT.vs (n+1) (ks.set d (some (a,t))))::(j8 n ks d++L))) w):Sep E (dI (n+1) b (ks.set d (some (a,t)))++L) w:=by
 have hk:(ks.set d (some (a,t)))[d]?=some (some (a,t)):=jd f;rw[HP,r9 hk];have c:(ks.set d (some (a,t))).take d=ks.take d:=by rw[S2 (ek d)]
 have e:(ks.set d (some (a,t))).drop (d+1)=ks.drop (d+1):=by rw[S3 bu]
 rw[c,e];refine h.perm ?_;unfold j8;show List.Perm _ ((bC b (RT.vs (n+1) (ks.set d (some (a,t))))::(List.flatMap (e2 n) (ks.take d)++(dI n a t++List.flatMap (e2 n) (ks.drop (d+1)))))++L);generalize List.flatMap (e2 n) (ks.take d)=A;generalize List.flatMap (e2 n) (ks.drop (d+1))=B;generalize dI n a t=C;generalize bC b (RT.vs (n+1) (ks.set d (some (a,t))))=X;simp only[o5,dj];refine jf.trans (List.Perm.cons X ?_);have:(C++(A++(B++L))).Perm (A++(C++(B++L))):=by
  have h1:=rE (B++L) (l1 (l₁:=C) (l₂:=A));rwa[dj,dj]at h1
 exact this
def uw:∀(l:bA Bool) (d:Nat),hasB l/2^d%2=if l.getD d false then 1 else 0
 |[],d=>by simp[hasB]
 |b::r,0=>by
  simp only[hasB,zc,zj];cases b<;>simp<;>omega
 |b::r,d+1=>by
  have:=uw r d;rw[p3,wk,<- FO];have e:hasB (b::r)/2=hasB r:=by simp only[hasB];cases b<;>simp<;>omega
  rw[e,this];rfl
def oJ:∀(l:bA Bool),hasB l<2^l.length
 |[]=>by simp[hasB]
 |b::r=>by
  have:=oJ r;simp only[hasB,hM,p3];cases b<;>simp<;>omega
end Go.Kv
namespace Go.Vc
open Go
def FW:bV Nat->Fence
 |none=>Fence.wide
 |some l=>Fence.wide.inRound l
def FW.fn(r:bV Nat)(f:bg5):(FW r).fn f:=by cases r<;>exact trivial
def FW.depth(r:bV Nat):(FW r).depth=none:=by cases r<;>rfl
section
variable{P:cN}{τ:cc->K1}{ρ:cc->Kd}{cx:bg5->Bool}{A:dQ}{yl:Nat->Bool}{n:Nat}
def FW.calls{r:bV Nat}{f:bg5}{args:cb bE}{w:bI}{R:Ending->bf8}(h:Calls P f args w R):CallsIn (FW r) n P f args w R:=by
 cases r with
 |none=>exact callsIn_wide.2 h
 |some l=>exact(callsIn_wide.2 h).inRound l
def FW.rows{r:bV Nat}{row:String}{args:cb bE}{w:bI}{R:bf9}(h:Rows P row args w R):RowsIn (FW r) n P row args w R:=by
 have h1:RowsIn Fence.wide n P row args w R:=λc cs _=>let ⟨v,w',a,s⟩:=h c cs;⟨v,w',a,stepsIn_wide.2 s⟩;cases r with
 |none=>exact h1
 |some l=>exact h1
def FW.kz{r:bV Nat}{x:Prop}:(FW r).depth.isSome=true->x:=by rw[FW.depth];intro h;cases h
def US{r:bV Nat}{o:Oper}{a0 a:Act}{w:bI}{K g:Act->bf8}{Q Q':Exit->Act->bf8}(l:a0.tmps=a.tmps)(i:∀c,o.op≠ .defer c)(h:o.wp P a0 w K Q)(hn:∀v w',K (a0.put o.dst v) w'->g (a.put o.dst v) w')(k:∀d w',¬ K ({a0 with defers:=d::a0.defers}.put o.dst undef) w')(hp:∀b w',Q (.panic b) a0 w'->Q' (.panic b) a w')(hl:LetsOut Q->LetsOut Q'):o.wpIn (FW r) n P a w g Q':=by
 refine⟨λf _=>FW.fn r f,?_⟩;have he:a0.eval=a.eval:=by funext x;cases x<;>simp[Act.eval,l]
 rw[Oper.semAt_eq _ _ _ i,<- he];unfold Oper.wp at h;generalize (execOp a0.eval o).run P w=res at h ⊢
 match res with
 |.ok (.value v) w'=>exact hn _ _ h
 |.ok .skip w'=>exact hn _ _ h
 |.ok (.defer d) w'=>exact absurd h (k d w')
 |.ok (.enter f args) w'=>
  refine⟨FW.kz,FW.calls (Calls.mono h λe j he=>?_)⟩;cases e with
  |returned v=>exact hn _ _ he
  |panicked b=>exact hp _ _ he
  |outgrown=>exact hl he
 |.ok (.row row args) w'=>exact⟨FW.kz,FW.rows (Rows.mono h λv j m=>hn _ _ m)⟩
 |.halt (.panic v) w'=>exact hp _ _ h
def marks(D:bA Nat):bA Deferred:=D.map λb=> {target:=.collected b,args:= #[]}
structure eT(D:bA Nat)(N:Nat)(T:Tr)(a:Act):Prop where
 defers:a.defers=marks D
 rel:Rel N T {tmps:=a.tmps,defers:=[]}
def eT.put{D:bA Nat}{N:Nat}{T:Tr}{a:Act}(h:eT D N T a)(b:N<=8000){d:bV Nat}(c:∀t,d=some t->t<N)(v:bE):eT D N (T.put d v) (a.put d v):=by
 have:=h.rel.put b c v;cases d with
 |none=>exact⟨h.defers,this⟩
 |some d=>exact⟨h.defers,this⟩
def eT.same{D:bA Nat}{N:Nat}{T T':Tr}{a:Act}(h:eT D N T a)(b:∀t,T'.get t=T.get t):eT D N T' a:=⟨h.defers,h.rel.same b⟩
def eT.ev{D:bA Nat}{N:Nat}{T:Tr}{a:Act}(h:eT D N T a):a.eval=T.ev:=by
 rw[<- h.rel.ev];funext x;cases x<;>rfl
def eT.of{N:Nat}{T:Tr}{a:Act}(h:Rel N T a):eT [] N T a:=⟨h.defers,⟨rfl,h.size,h.get⟩⟩
def w7(P:cN)(r:bV Nat)(g:bE)(args:cb bE)(w:bI)(R:Ending->bf8):Prop:=
 ∃l,g=.func (.yield l) #[] #[]/\YieldAt (FW r) 0 P l args w R
def ux(yl:Nat->Bool)(o:Oper):Bool:=match o.dst with|some d=>yl d|none=>false
def oK(P:cN)(τ:cc->K1)(ρ:cc->Kd)(cx:bg5->Bool)(A:dQ)(yl:Nat->Bool)(r:bV Nat)(o:Oper)(T:Tr)(w:bI)(next:Tr->bf8)(Q:Exit->Tr->bf8):Prop:=
 bif ux yl o then(match o.op with
  |.call {callee:=.value g,args,.. } =>w7 P r (T.ev g) (args.map T.ev) w λe w'=>(ρ o.type).ex λv=>e=.returned v/\next (T.put o.dst v) w'
  |_=>False)
 else ng P τ ρ cx A o T w next Q
def w8(P:cN)(τ:cc->K1)(ρ:cc->Kd)(cx:bg5->Bool)(A:dQ)(yl:Nat->Bool)(r:bV Nat)(ops:cb Oper)(Q:Exit->Tr->bf8):bA Oper->Tr->bf8
 |[],T,w=>Q .normal T w
 |o::rest,T,w=>km ops o T (λT=>oK P τ ρ cx A yl r o T w (w8 P τ ρ cx A yl r ops Q rest) Q) (λT=>w8 P τ ρ cx A yl r ops Q rest (T.put o.dst undef) w)
def sa(P:cN)(τ:cc->K1)(ρ:cc->Kd)(cx:bg5->Bool)(A:dQ)(yl:Nat->Bool)(r:bV Nat)(ops:cb Oper)(Q:Exit->Tr->bf8):Nat->cb Bool->Tr->bf8
 |0,listed,T,w=>match Region.ready .any ops listed with
  |[]=>Q .normal T w
  |_=>False
 |fuel+1,listed,T,w=>match Region.ready .any ops listed with
  |[]=>Q .normal T w
  |i::l=>tV (λi=>match ops[i]? with
   |none=>False
   |some o=>km ops o T (λT=>oK P τ ρ cx A yl r o T w (sa P τ ρ cx A yl r ops Q fuel (listed.setIfInBounds i true)) Q) (λT=>sa P τ ρ cx A yl r ops Q fuel (listed.setIfInBounds i true) (T.put o.dst undef) w)) (i::l)
def UT(b:Nat)(c:Code)(done ret:bf8):Ending->bf8
 |.returned _,w=>∃r:Loop,w.heap[b+1]?=some (.loop r)/\r.state≠ .busy/\(match r.pending with
  |none=>done (w.putObj (b+1) (.loop {r with state:=.exhausted}))
  |some c'=>c'=c/\ret (w.putObj (b+1) (.loop {r with state:=.exhausted})))
 |_,_=>False
def sc(fn:bg5)(a:cb bE)(ps:cb Tmp)(assign body:Code)(b:Nat):Loop:={state:=.ready,pending:=none,fn,tmps:=a,params:=ps,assign,body,defers:=b}
def q6(T:Tr)(a:cb bE):Prop:=∀t,a.getD t undef=T.get t
def iB(P:cN)(N:Nat)(g:bE)(ps:cb Tmp)(assign body c:Code)(T:Tr)(w:bI)(done ret:Nat->bf8):Prop:=
 ∃(f:bg5) (fi ca b:cb bE),g=.func (.func f) fi ca/\b=fi++ #[.func (.yield (w.heap.size+1)) #[] #[]]++ca/\kO P f=true/\∀(fn:bg5) (a:cb bE),a.size=N->q6 T a->
  Calls P f b ((w.alloc (.deferred (some []))).alloc (.loop (sc fn a ps assign body w.heap.size))) (UT w.heap.size c (done w.heap.size) (ret w.heap.size))
def A6:bV Nat->Code
 |none=>.ret
 |some i=>.exit i
def A7:bV Nat->Exit
 |none=>.ret
 |some i=>.exit i
def HQ(next:bA Nat->Tr->bf8)(Q:bA Nat->Exit->Tr->bf8):bA Nat->Exit->Tr->bf8
 |D,.normal,T,w=>next D T w
 |D,e,T,w=>Q D e T w
def UU(id:Nat)(Q:bA Nat->Exit->Tr->bf8):bA Nat->Exit->Tr->bf8
 |D,.exit a,T,w=>bif Nat.beq a id then Q D .normal T w else Q D (.exit a) T w
 |D,e,T,w=>Q D e T w
def kA(P:cN)(τ:cc->K1)(ρ:cc->Kd)(cx:bg5->Bool)(A:dQ)(yl:Nat->Bool)(N:Nat)(r:bV Nat):Nat->Code->(bA Nat->Exit->Tr->bf8)->bA Nat->Tr->bf8
 |0,_,_,_,_,_=>False
 |n+1,c,Q,D,T,w=>match c with
  |.skip=>Q D .normal T w
  |.label _=>Q D .normal T w
  |.exit id=>Q D (.exit id) T w
  |.ret=>Q D .ret T w
  |.region id ops draw=>match draw with
   |false=>w8 P τ ρ cx A yl r ops (Q D) ops.toList T w
   |true=>bif A.head id==ops.size then Dr (λw'=>tU P τ ρ ops w' (λT'=>Q D .normal T' w') ops.toList T) w else Dr (λw'=>sa P τ ρ cx A yl r ops (Q D) ops.size (Array.replicate ops.size false) T w') w
  |.seq x y=>kA P τ ρ cx A yl N r n x (HQ (λD T w=>kA P τ ρ cx A yl N r n y Q D T w) Q) D T w
  |.cond c x y=>match T.ev c with
   |.bool t=>bif t then kA P τ ρ cx A yl N r n x Q D T w else kA P τ ρ cx A yl N r n y Q D T w
   |_=>False
  |.block id c=>kA P τ ρ cx A yl N r n c (UU id Q) D T w
  |.loop c=>wB (A.loop ((l9 c).getD 0)) (wr c) (λnext=>kA P τ ρ cx A yl N r n c (HQ (λa T w=>a=D/\next T w) Q) D) T w
  |.rangeFunc g ps assign body=>match r with
   |none=>iB P N (T.ev g) ps assign body (A6 A.brk) T w (λb w'=>Q (b::D) .normal T w') (λb w'=>Q (b::D) (A7 A.brk) T w')
   |some _=>False
  |_=>False
def gL(P:cN)(N:Nat)(A:dQ):Code->Bool
 |.region id ops _=>(g4 P N ops.toList&&ops.toList.all λo=>match o.op with | .defer _=>false|_=>true)&&(bif A.head id==ops.size then Region.lexB .any ops else true)
 |.seq x y=>gL P N A x&&gL P N A y
 |.cond _ x y=>gL P N A x&&gL P N A y
 |.block _ c=>gL P N A c
 |.loop c=>gL P N A c&&okW c&&nk (A.loop ((l9 c).getD 0))
 |_=>true
def HR{D:bA Nat}{r:bV Nat}{N:Nat}{o:Oper}{T:Tr}{a:Act}{w:bI}{next:Tr->bf8}{next':Act->bf8}{Q:Exit->Tr->bf8}{Q':Exit->Act->bf8}(hr:eT D N T a)(z:∀s d x,o.op=.convert s d x->(P.underlying s).isSome=true)(q:∀c,o.op≠ .defer c)(h:oK P τ ρ cx A yl r o T w next Q)(hn:∀v w',next (T.put o.dst v) w'->next' (a.put o.dst v) w')(hp:∀m w',Q (.panic m) T w'->Q' (.panic m) a w'):o.wpIn (FW r) 0 P a w next' Q':=by
 unfold oK at h;cases u:ux yl o with
 |true=>
  rw[u,hH]at h;split at h
  ·rename_i g args ts ho;obtain⟨l,t,fn,tmps,assign,body,p,n⟩:=h;refine⟨λf _=>FW.fn r f,?_⟩;rw[<- hr.ev]at t p;have he:(execOp a.eval o).run P w=.ok (.round l fn tmps assign body) w:=by
    simp only[execOp,ho,resolve,t,Deferred.ofValue,Sem.run_bind,Sem.run_pure,Result.andThen,invoke];simpa using p
   rw[Oper.semAt_eq _ _ _ q,he];refine⟨FW.kz,n.mono λe w' he=>?_⟩;obtain⟨v,rfl,j⟩:=Kd.eV he;exact hn _ _ j
  ·exact h.elim
 |false=>
  rw[u,hh]at h;have:=wG (next':=λb w'=>∃v,b= {tmps:=(a.put o.dst v).tmps,defers:=[]} /\next (T.put o.dst v) w') (Q':=λe _ w'=>match e with | .panic m=>Q (.panic m) T w' | _=>False) hr.rel z h
   (λv w' j=>⟨v,by cases o.dst<;>rfl,j⟩) (λm w' h=>h)
  refine US (a0:={tmps:=a.tmps,defers:=[]}) rfl q this (λv w' j=>?_) (λd w' B=>?_) (λm w' h=>hp _ _ h) (λ⟨_,_,h⟩=>h.elim)
  ·obtain⟨y,k,j⟩:=j;have e:a.put o.dst v=a.put o.dst y:=by
    cases i:o.dst with
    |none=>rfl
    |some d=>
     rw[i]at k;have:=eJ Act.tmps k;simp only[Act.put]at this ⊢;rw[this]
   rw[e];exact hn _ _ j
  ·obtain⟨y,k,_⟩:=B;have:=eJ Act.defers k;cases i:o.dst with
   |none=>rw[i]at this;cases this
   |some d=>rw[i]at this;cases this
def A8{l:bA Oper}(h:(l.all λo=>match o.op with | .defer _=>false|_=>true)=true){o:Oper}(ho:o∈l):∀c,o.op≠ .defer c:=by
 intro c e;have:=fQ.1 h o ho;rw[e]at this;cases this
def HS{D:bA Nat}{N:Nat}{ops:cb Oper}{o:Oper}{T:Tr}{a:Act}{yes no:Tr->Prop}{B:Prop}(c:N<=8000)(b:g4 P N ops.toList=true)(hr:eT D N T a)(h:km ops o T yes no)(d:∀T',(∀t,T'.get t=T.get t)->yes T'->Region.wanted o (yielded ops a.tmps)=true->B)(hn:∀T',(∀t,T'.get t=T.get t)->no T'->Region.wanted o (yielded ops a.tmps)=false->B):B:=
 ph (B:=B) c b hr.rel h d hn
def A9{D:bA Nat}{r:bV Nat}{N:Nat}(i:N<=8000){ops:cb Oper}(d:g4 P N ops.toList=true){Q:Exit->Tr->bf8}{Q':Exit->Act->bf8}:∀(l:bA Oper) (T:Tr) (a:Act) (w:bI),
  g4 P N l=true->(l.all λo=>match o.op with | .defer _=>false|_=>true)=true->eT D N T a->
  w8 P τ ρ cx A yl r ops Q l T w->(∀e T' w' a',Q e T' w'->Fr (eF l) T T'->eT D N T' a'->Q' e a' w')->wpListIn (FW r) 0 P ops Q' l a w
 |[],T,a,w,_,_,hr,h,q=>q _ _ _ _ h (.refl _ _) hr
 |o::l,T,a,w,n,j,hr,h,q=>by
  have p:=wF n;have k:(l.all λo=>match o.op with | .defer _=>false|_=>true)=true:=by rw[y8,dy]at j;exact j.2
  have G:=adc n (fE (a:=o) (l:=l));have c:=ma n (fE (a:=o) (l:=l));have F:=A8 j (fE (a:=o) (l:=l));have x:∀t,t∈eF l->t∈eF (o::l):=λt y=>by
   unfold eF at y ⊢;rw[FY];split<;>simp_all
  have m:∀t,o.dst=some t->t∈eF (o::l)/\t<8000:=λt y=>⟨by simp[eF,y],lI (c t y) i⟩
  refine HS (B:=wpListIn (FW r) 0 P ops Q' (o::l) a w) i d hr h ?_ ?_
  ·intro T' u H hw;unfold wpListIn;rw[hw,bK rfl];have b:=hr.same u;have g:Fr (eF (o::l)) T T':=λt _=>u t;refine HR b G F H (λv w' h'=>?_) (λI w' E=>q _ _ _ _ E g b);exact A9 i d l _ _ _ p k (b.put i c v) h' (λe z w2 C he hf s=>q e z w2 C he ((g.trans (Fr.put _ _ _ _ m)).trans (hf.mono x)) s)
  ·intro T' u hn hw;unfold wpListIn;rw[hw,bJ bN];have b:=hr.same u;have g:Fr (eF (o::l)) T T':=λt _=>u t;exact⟨λf _=>FW.fn r f,A9 i d l _ _ _ p k (b.put i c undef) hn (λe z w2 C he hf s=>q e z w2 C he ((g.trans (Fr.put _ _ _ _ m)).trans (hf.mono x)) s)⟩
def Ba{D:bA Nat}{r:bV Nat}{N:Nat}(k:N<=8000){ops:cb Oper}(b:g4 P N ops.toList=true)(l:(ops.toList.all λo=>match o.op with | .defer _=>false|_=>true)=true){Q:Exit->Tr->bf8}{Q':Exit->Act->bf8}{s:Tr}(p:∀e T' w' a',Q e T' w'->Fr (eF ops.toList) s T'->eT D N T' a'->Q' e a' w'):
  ∀(fuel:Nat) (listed:cb Bool) (T:Tr) (a:Act) (w:bI),Fr (eF ops.toList) s T->eT D N T a->sa P τ ρ cx A yl r ops Q fuel listed T w->wpAnyIn (FW r) 0 P .any ops Q' fuel listed a w
 |0,listed,T,a,w,hf,hr,h=>by
  unfold sa at h;unfold wpAnyIn;split at h;·next e=>exact⟨e,p _ _ _ _ h hf hr⟩
  ·exact h.elim
 |fuel+1,listed,T,a,w,hf,hr,h=>by
  unfold sa at h;unfold wpAnyIn;split at h
  ·next e=>
   refine⟨λ_=>p _ _ _ _ h hf hr,λi m=>?_⟩;rw[e]at m;cases m
  ·next i0 H e=>
   refine⟨λx=>(by rw[e]at x;cases x),λi m=>?_⟩;rw[e]at m;have u:=Az h i m;unfold wpOpIn;cases ho:ops[i]? with
   |none=>simp only[ho]at u
   |some o=>
    simp only[ho]at u;have j:o∈ops.toList:=by
     have:=mD ho;simpa using this
    have E:=adc b j;have d:=ma b j;have z:=A8 l j;have n:∀t,o.dst=some t->t∈eF ops.toList/\t<8000:=λt C=>⟨by unfold eF;exact vZ.2 ⟨o,j,C⟩,lI (d t C) k⟩
    refine HS (B:=if Region.wanted o (yielded ops a.tmps)then o.wpIn (FW r) 0 P a w (wpAnyIn (FW r) 0 P .any ops Q' fuel (listed.setIfInBounds i true)) Q' else(∀f,o.about P w a.eval=some f->(FW r).fn f)/\wpAnyIn (FW r) 0 P .any ops Q' fuel (listed.setIfInBounds i true) (a.put o.dst undef) w) k b hr u ?_ ?_
    ·intro T' q F hw;rw[hw,bK rfl];have c:=hr.same q;have g:Fr (eF ops.toList) s T':=hf.trans (λt _=>q t);refine HR c E z F (λv w' h'=>?_) (λG w' y=>p _ _ _ _ y g c);exact Ba k b l p fuel _ _ _ _ (g.trans (Fr.put _ _ _ _ n)) (c.put k d v) h'
    ·intro T' q hn hw;rw[hw,bJ bN];have c:=hr.same q;have g:Fr (eF ops.toList) s T':=hf.trans (λt _=>q t);exact⟨λf _=>FW.fn r f,Ba k b l p fuel _ _ _ _ (g.trans (Fr.put _ _ _ _ n)) (c.put k d undef) hn⟩
def UW{D:bA Nat}{r:bV Nat}{N:Nat}{c:Code}{l:bA (Nat×C1)}{body:(Tr->bf8)->Tr->bf8}{Q':Exit->Act->bf8}{T:Tr}{a:Act}{w:bI}(z:∀t∈wr c,t<8000)(hl:pf l)(hr:eT D N T a)(i:∀(next:Tr->bf8) (next':Act->bf8) (d:Tr) (g:Act) (j:bI),Fr (wr c) T d->eT D N d g->body next d j->(∀T' w' a',next T' w'->Fr (wr c) d T'->eT D N T' a'->next' a' w')->
   c.wpIn (FW r) 0 P (Exit.then next' Q') g j)(h:wB l (wr c) body T w):(Code.loop c).wpIn (FW r) 0 P Q' a w:=by
 obtain⟨G,M,H,h⟩:=h;let J:Nat->Act->bf8:=λn a' w'=>∃T',eT D N T' a'/\Fr (wr c) T T'/\∃u:Nat->bE,nU l G M (mO u (mN (wr c) l) T) (λv s F=>(∀t,T'.get t=v.get t)/\s w'/\F w'=n);have e:∃n,J n a w:=by
  obtain⟨n,hn⟩:=uc l G M T _ w hl H (rU T _ _ T (rV z) (λ_ _=>rfl));exact⟨n,T,hr,.refl _ _,_,hn⟩
 obtain⟨L,e⟩:=e;refine wpIn_loop_ghost J L e ?_;rintro n g j ⟨d,B,A,u,hex⟩;obtain⟨x,s,F,hK,b,K,rfl⟩:=ub l G M _ _ _ (h u) hex;have C:eT D N x g:=B.same (λt=>(b t).symm);have f:Fr (wr c) T x:=λt q=>(b t).symm.trans (A t q);refine i _ _ _ _ _ f C (hK j K) (λy O a3 I k E=>?_);have p:Fr (wr c) d y:=λt q=>(k t q).trans (b t).symm;obtain⟨m,hm,o⟩:=AD z hl hex (λ_ _ _ h=>h.1) p I;exact⟨m,hm,y,E,f.trans k,_,o⟩
def UX{D:bA Deferred}{r:bV Nat}{ops:cb Oper}{w:bI}{i:Nat}{a0 a:Act}{K:Act->Prop}{m:Act->bf8}{Q':Exit->Act->bf8}(n:∀o,ops[i]?=some o->∀c,o.op≠ .defer c)(k:a0.tmps=a.tmps)(l:a.defers=D)(h:∀b0 b:Act,b0.tmps=b.tmps->b.defers=D->K b0->m b w)(g:stOp P ops w i K a0):wpOpIn (FW r) 0 P ops Q' i m a w:=by
 have j:∀(d:bV Tmp) (v:bE),(a0.put d v).tmps=(a.put d v).tmps/\(a.put d v).defers=D:=by
  intro d v;cases d with
  |none=>exact⟨k,l⟩
  |some d=>exact⟨by simp only[Act.put,k],l⟩
 have he:a0.eval=a.eval:=by funext x;cases x<;>simp[Act.eval,k]
 unfold stOp at g;unfold wpOpIn;cases ho:ops[i]? with
 |none=>simp only[ho]at g;exact h _ _ k l g
 |some o=>
  simp only[ho]at g;dsimp only;rw[k]at g;split
  ·rename_i hw;simp only[hw,g3]at g;refine⟨λf _=>FW.fn r f,?_⟩;rw[Oper.semAt_eq _ _ _ (n o ho),<- he];unfold Oper.still at g;generalize (execOp a0.eval o).run P w=res at g ⊢
   match res with
   |.ok (.value v) w'=>obtain⟨rfl,g⟩:=g;exact h _ _ (j _ _).1 (j _ _).2 g
   |.ok .skip w'=>obtain⟨rfl,g⟩:=g;exact h _ _ (j _ _).1 (j _ _).2 g
   |.ok (.enter f args) w'=>
    obtain⟨rfl,v,p,g⟩:=g;refine⟨FW.kz,FW.calls (p.mono λe q he=>?_)⟩;obtain⟨rfl,rfl⟩:=he;exact h _ _ (j _ _).1 (j _ _).2 g
  ·rename_i hw;simp only[hw]at g;exact⟨λf _=>FW.fn r f,h _ _ (j _ _).1 (j _ _).2 g⟩
def HT{D:bA Deferred}{r:bV Nat}{ops:cb Oper}{md:Region.Mode}{w:bI}{Q:Act->Prop}{Q':Exit->Act->bf8}(f:∀(i:Nat) o,ops[i]?=some o->∀c,o.op≠ .defer c)(g:∀a0 a:Act,a0.tmps=a.tmps->a.defers=D->Q a0->Q' .normal a w):∀(fuel:Nat) (listed:cb Bool) (a0 a:Act),a0.tmps=a.tmps->a.defers=D->
  wpAnyS P md ops w Q fuel listed a0->wpAnyIn (FW r) 0 P md ops Q' fuel listed a w
 |0,_,_,_,e,d,h=>⟨h.1,g _ _ e d h.2⟩
 |fuel+1,_,_,_,e,d,h=>⟨λj=>g _ _ e d (h.1 j),λi l=>UX (f i) e d (λb0 b h1 h2 k=>HT f g fuel _ b0 b h1 h2 k) (h.2 i l)⟩
def Bb(hm:P.follows .mixedOrders=true){N:Nat}(O:N<=8000){r:bV Nat}:∀(n:Nat) (c:Code) (Q:bA Nat->Exit->Tr->bf8) (Q':Exit->Act->bf8) (D:bA Nat) (T:Tr) (a:Act) (w:bI),gL P N A c=true->eT D N T a->
  kA P τ ρ cx A yl N r n c Q D T w->(∀q e T' w' a',Q q e T' w'->Fr (wr c) T T'->eT q N T' a'->Q' e a' w')->c.wpIn (FW r) 0 P Q' a w:=by
 intro n;induction n with
 |zero=>intro c Q Q' D T a w _ _ h;exact h.elim
 |succ n C=>
 intro c;cases c with
 |skip=>intro Q Q' D T a w _ hr h d;exact wpIn_skip (d _ _ _ _ _ h (.refl _ _) hr)
 |label l=>intro Q Q' D T a w _ hr h d;exact wpIn_label (d _ _ _ _ _ h (.refl _ _) hr)
 |exit id=>intro Q Q' D T a w _ hr h d;exact wpIn_exit (d _ _ _ _ _ h (.refl _ _) hr)
 |ret=>intro Q Q' D T a w _ hr h d;exact wpIn_ret (d _ _ _ _ _ h (.refl _ _) hr)
 |region id ops draw=>
  intro Q Q' D T a w j hr h d;unfold gL at j;simp only[dy]at j;obtain⟨⟨ho,G⟩,u⟩:=j;cases draw with
  |false=>exact wpIn_region_list (A9 O ho _ _ _ _ ho G hr h (λe T' w' a' h1 h2 E=>d _ _ _ _ _ h1 h2 E))
  |true=>
   refine wpIn_region_any hm ?_;unfold kA at h;dsimp only at h;cases F:A.head id==ops.size with
   |true=>
    rw[F,hH]at h u;have ae:∀(i:Nat) o,ops[i]?=some o->∀c,o.op≠ .defer c:=λi o ab=>A8 G (by have:=mD ab;simpa using this);simp only[Region.lexB,dy]at u;have h1:=ua (Q':=λa0=>∀m:Act,a0.tmps=m.tmps->m.defers=marks D->Q' .normal m w.drew) O ho _ _ _ ho hr.rel h (λT' a0 X hf b m k S=>d _ _ _ _ _ X hf ⟨S,by
     have:=b;exact⟨rfl,by rw[<- k];exact this.size,λt=>by rw[<- k];exact this.get t⟩⟩)
    have h2:=wpAnyS_lex (md:=.any) u.1 ops.toList 0 (Array.replicate ops.size false) _ (by simp) (by simpa using u.2) h1;have E:wpAnyS P .any ops w.drew (λa0=>∀m:Act,a0.tmps=m.tmps->m.defers=marks D->Q' .normal m w.drew) ops.size (Array.replicate ops.size false) {tmps:=a.tmps,defers:=[]} :=by simpa using h2
    exact HT (D:=marks D) ae (λa0 m k S ai=>ai m k S) _ _ {tmps:=a.tmps,defers:=[]} a rfl hr.defers E
   |false=>
    rw[F,hh]at h;exact Ba O ho G (λe T' w' a' h1 h2 E=>d D e T' w' a' h1 h2 E) _ _ _ _ _ (Fr.refl _ _) hr h
 |seq x y=>
  intro Q Q' D T a w j hr h d;unfold gL at j;simp only[dy]at j;have hx:∀t,t∈wr x->t∈wr (.seq x y):=λt k=>mF _ k;have am:∀t,t∈wr y->t∈wr (.seq x y):=λt k=>nO _ k;refine wpIn_seq (C x _ _ _ _ _ _ j.1 hr h (λq e T' w' a' he hf b=>?_));cases e with
  |normal=>exact C y _ _ _ _ _ _ j.2 b he (λan e ap w2 aq Y Z ag=>d _ _ _ _ _ Y ((hf.mono hx).trans (Z.mono am)) ag)
  |exit id=>exact d _ _ _ _ _ he (hf.mono hx) b
  |goto l=>exact d _ _ _ _ _ he (hf.mono hx) b
  |ret=>exact d _ _ _ _ _ he (hf.mono hx) b
  |panic L=>exact d _ _ _ _ _ he (hf.mono hx) b
  |outgrown=>exact d _ _ _ _ _ he (hf.mono hx) b
 |cond c x y=>
  intro Q Q' D T a w j hr h d;unfold gL at j;simp only[dy]at j;unfold kA at h;dsimp only at h;split at h
  ·rename_i t k;have K:a.eval c=.bool t:=by rw[hr.ev];exact k
   cases t with
   |true=>exact wpIn_cond_true K (C x _ _ _ _ _ _ j.1 hr h (λq e T' w' a' he hf b=>d _ _ _ _ _ he (hf.mono (λt k=>mF _ k)) b))
   |false=>exact wpIn_cond_false K (C y _ _ _ _ _ _ j.2 hr h (λq e T' w' a' he hf b=>d _ _ _ _ _ he (hf.mono (λt k=>nO _ k)) b))
  ·exact h.elim
 |block id c=>
  intro Q Q' D T a w j hr h d;refine wpIn_block (C c _ _ _ _ _ _ j hr h (λq e T' w' a' he hf b=>?_));cases e with
  |exit p=>
   replace he:bif Nat.beq p id then Q q .normal T' w' else Q q (.exit p) T' w':=he
   show if p=id then Q' .normal a' w' else Q' (.exit p) a' w'
   rw[j5]at he;by_cases e:p=id;·simp only[e,tz,hH]at he;rw[bK e];exact d _ _ _ _ _ he hf b
   ·have:(p==id)=false:=by simpa using e
    rw[this,hh]at he;rw[bJ e];exact d _ _ _ _ _ he hf b
  |normal=>exact d _ _ _ _ _ he hf b
  |goto l=>exact d _ _ _ _ _ he hf b
  |ret=>exact d _ _ _ _ _ he hf b
  |panic L=>exact d _ _ _ _ _ he hf b
  |outgrown=>exact d _ _ _ _ _ he hf b
 |loop c=>
  intro Q Q' D T a w j hr h d;unfold gL at j;simp only[dy]at j;obtain⟨⟨j,aj⟩,ad⟩:=j;unfold kA at h;dsimp only at h;refine UW (tY aj) (wE ad) hr (λnext next' ao m au z af hb hn=>?_) h;refine C c _ _ _ _ _ _ j af hb (λq e T' w' a' he hf b=>?_);cases e with
  |normal=>
   obtain⟨rfl,he⟩:=he;exact hn _ _ _ he hf b
  |exit id=>exact d _ _ _ _ _ he (z.trans hf) b
  |goto l=>exact d _ _ _ _ _ he (z.trans hf) b
  |ret=>exact d _ _ _ _ _ he (z.trans hf) b
  |panic L=>exact d _ _ _ _ _ he (z.trans hf) b
  |outgrown=>exact d _ _ _ _ _ he (z.trans hf) b
 |rangeFunc g ps assign body=>
  intro Q Q' D T a w j hr h d;unfold kA at h;dsimp only at h;cases r with
  |some l=>exact h.elim
  |none=>
   obtain⟨f,fi,ca,ar,aa,has,B,H⟩:=h;subst has;refine wpIn_rangeFunc (λfn _=>?_);have ak:=H fn a.tmps hr.rel.size hr.rel.get;unfold kO at B;split at B
   ·rename_i M U;simp only[dy,ib,vX]at B;obtain⟨V,W⟩:=B;have I:¬ M.body=none:=by intro hx;simp[hx]at V
    refine⟨w.heap.size+1,[{target:=.collected w.heap.size,args:= #[]}],(w.alloc (.deferred (some []))).alloc (.loop (sc fn a.tmps ps assign body w.heap.size)), {target:=.fn (.func f) ca,args:=fi++ #[.func (.yield (w.heap.size+1)) #[] #[]]},(w.alloc (.deferred (some []))).alloc (.loop (sc fn a.tmps ps assign body w.heap.size)),f,fi++ #[.func (.yield (w.heap.size+1)) #[] #[]]++ca,(w.alloc (.deferred (some []))).alloc (.loop (sc fn a.tmps ps assign body w.heap.size)),run_enterLoop_outer fn a.tmps ps assign body,?_,λf' _=>trivial,?_,FW.kz (r:=none),?_⟩
    ·rw[<- hr.ev]at aa;have R:a.eval (.const (.func (.yield (w.heap.size+1)) #[] #[]))=.func (.yield (w.heap.size+1)) #[] #[]:=rfl;simp[resolve,aa,R,Deferred.ofValue]
    ·simp[invoke,callFunc,U,W,I]
    ·refine callsIn_wide.2 (Calls.mono ak λe w' he=>?_);cases e with
     |panicked L=>exact he.elim
     |outgrown=>exact he.elim
     |returned v=>
      obtain⟨ah,hl,al,he⟩:=he;refine⟨ah.pending,_,run_endLoop hl al,?_⟩;generalize w'.putObj (w.heap.size+1) (.loop {ah with state:=.exhausted})=av at he ⊢;have b:eT (w.heap.size::D) N T {a with defers:=[{target:=.collected w.heap.size,args:= #[]}]++a.defers} :=⟨by simp[hr.defers,marks],hr.rel⟩
      split at he;·next hp=>rw[hp];exact d _ _ _ _ _ he (.refl _ _) b
      ·next c' hp=>
       obtain⟨rfl,he⟩:=he;rw[hp];cases J:A.brk with
       |none=>rw[J]at he;exact wpIn_ret (d _ _ _ _ _ he (.refl _ _) b)
       |some i=>rw[J]at he;exact wpIn_exit (d _ _ _ _ _ he (.refl _ _) b)
   ·cases B
 |scope c=>intro Q Q' D T a w _ _ h _;unfold kA at h;exact h.elim
 |goto l=>intro Q Q' D T a w _ _ h _;unfold kA at h;exact h.elim
 |refuse s=>intro Q Q' D T a w _ _ h _;unfold kA at h;exact h.elim
def shut:bA Nat->bI->(bf8)->Prop
 |[],w,f=>f w
 |b::D,w,f=>w.heap[b]?=some (.deferred (some []))/\shut D (w.putObj b (.deferred none)) f
def UY(P:cN)(τ:cc->K1)(rs:bA ResultVar)(K:bf9):bA Nat->Exit->Tr->bf8
 |D,.normal,T,w=>shut D w λw=>iH P τ w T rs #[] λvs=>K (oneOf vs) w
 |D,.ret,T,w=>shut D w λw=>iH P τ w T rs #[] λvs=>K (oneOf vs) w
 |_,_,_,_=>False
def m3(P:cN)(τ:cc->K1)(ρ:cc->Kd)(cx:bg5->Bool)(A:dQ)(yl:Nat->Bool)(fn:Func)(args:cb bE)(K:bf9)(w:bI):Prop:=
 match fn.body with
 |some c=>kA P τ ρ cx A yl fn.ntmps none 1000 c (UY P τ fn.results.toList K) [] (ji args.toList 0 .nil) w
 |none=>False
def m4(P:cN)(A:dQ)(fn:Func)(n:Nat):Bool:=match fn.body with
 |some c=>gL P fn.ntmps A c&&Nat.ble fn.ntmps 8000&&Nat.ble n fn.ntmps
 |none=>false
def HU{fn:Func}{tmps:cb bE}{R:Ending->bf8}:∀ {D:bA Nat} {w:bI} {f:bf8},shut D w f->(∀w',f w'->LeavesIn Fence.wide 0 P fn tmps R [] .returning w')->LeavesInM Fence.wide 0 P fn tmps R (marks D) .returning w
 |[],w,f,h,hf=>hf w h
 |b::D,w,f,h,hf=>⟨by simp,.inl ⟨b,_,rfl,run_takeDeferred h.1,HU h.2 hf⟩⟩
def n0{g:bg5}{fn:Func}{args:cb bE}{w:bI}{K:bf9}(hm:P.follows .mixedOrders=true)(hf:P.funcs[g]?=some fn)(a:m4 P A fn args.size=true)(h:m3 P τ ρ cx A yl fn args K w):Calls P g args w (cz K):=by
 unfold m3 at h;unfold m4 at a;split at h
 ·rename_i c d;rw[d]at a;simp only[dy]at a;obtain⟨⟨a,i⟩,hn⟩:=a;have b:fn.ntmps<=8000:=by simpa using i
  have f:args.size<=fn.ntmps:=by simpa using hn
  refine(callsIn_wide (n:=0)).1 (callsIn_of_wp_marks (F:=Fence.wide) hf d trivial ?_);refine Bb (r:=none) hm b 1000 c _ _ _ _ _ _ a (eT.of (Rel.init b f)) h (λD e T' w' a' he _ hr=>?_);have key:(shut D w' λw=>iH P τ w T' fn.results.toList #[] λvs=>K (oneOf vs) w)->LeavesInM Fence.wide 0 P fn a'.tmps (cz K) a'.defers .returning w':=λh=>by
   rw[hr.defers];refine HU h (λw2 h2=>?_);obtain⟨vs,h1,h2⟩:=AF hr.rel h2;exact⟨_,h1,_,rfl,h2⟩
  cases e with
  |normal=>exact key he
  |ret=>exact key he
  |panic j=>exact he.elim
  |exit id=>exact he.elim
  |goto l=>exact he.elim
  |outgrown=>exact he.elim
 ·exact h.elim
def lk(l:Nat)(f:bf8)(W:bI):Prop:=∃r:Loop,W.heap[l]?=some (.loop r)/\r.state=.ready/\f (W.putObj l (.loop {r with state:=.busy}))
def e3(l:Nat)(j:bV Code)(R:Ending->bf8)(W:bI):Prop:=
 ∃r:Loop,W.heap[l]?=some (.loop r)/\R (.returned (.bool j.isNone)) (W.putObj l (.loop {r with state:=if j.isNone then .ready else .done,pending:=j}))
def nA(l:Nat)(R:Ending->bf8):bA Nat->Exit->Tr->bf8
 |_,.normal,_,w=>e3 l none R w
 |_,.ret,_,w=>e3 l (some .ret) R w
 |_,.exit id,_,w=>e3 l (some (.exit id)) R w
 |_,_,_,_=>False
def mo(P:cN)(τ:cc->K1)(ρ:cc->Kd)(cx:bg5->Bool)(A:dQ)(yl:Nat->Bool)(N l:Nat)(assign body:Code)(T:Tr)(W:bI)(R:Ending->bf8):Prop:=
 kA P τ ρ cx A yl N (some l) 1000 assign (λD e a b=>match e with
  |.normal=>lk l (kA P τ ρ cx A yl N (some l) 1000 body (nA l R) D a) b
  |_=>False) [] T W
def ll:Code->bV (Code×Code)
 |.rangeFunc _ _ a b=>some (a,b)
 |.seq x y=>match ll x with
  |some p=>some p
  |none=>ll y
 |.cond _ x y=>match ll x with
  |some p=>some p
  |none=>ll y
 |.block _ c=>ll c
 |_=>none
def j9(c:bV Code):Code:=((c.bind ll).map (·.1)).getD .skip
def ka(c:bV Code):Code:=((c.bind ll).map (·.2)).getD .skip
noncomputable def ln:bA (Tmp×bE)->Tr->Tr
 |[],T=>T
 |(t,v)::l,T=>ln l (T.put (some t) v)
def UZ{l N:Nat}{r:Loop}{args:cb bE}{T:Tr}{W:bI}{R:Ending->bf8}(hm:P.follows .mixedOrders=true)(k:N<=8000)(hl:W.heap[l]?=some (.loop r))(B:args.size=r.params.size)(v:r.tmps.size=N)(j:q6 T r.tmps)(x:∀t∈r.params.toList,t<N)(m:gL P N A r.assign=true)(n:gL P N A r.body=true)(h:mo P τ ρ cx A yl N l r.assign r.body (ln (r.params.zip args).toList T) W R):YieldAt Fence.wide 0 P l args W R:=by
 refine⟨_,_,_,_,run_yield hl B,roundIn_of_wpIn trivial ?_⟩;have o:∀(ps:bA (Tmp×bE)) (g:cb bE) (T:Tr),(∀p∈ps,p.1<N)->g.size=N->q6 T g->
   eT [] N (ln ps T) {tmps:=ps.foldl (λtmps (p:Tmp×bE)=>tmps.setIfInBounds p.1 p.2) g,defers:=[]} :=by
  intro ps;induction ps with
  |nil=>intro g T _ s j;exact⟨rfl,⟨rfl,s,j⟩⟩
  |cons p ps I=>
   intro g T hp s j;have h1:eT [] N T {tmps:=g,defers:=[]} :=⟨rfl,⟨rfl,s,j⟩⟩
   have h2:=h1.put k (d:=some p.1) (λt H=>by cases H;exact hp p (fE ..)) p.2;exact I _ _ (λq G=>hp q (fY _ G)) h2.rel.size h2.rel.get
 have u:=o (r.params.zip args).toList r.tmps T (λp hp=>x p.1 (by
  rw[Array.toList_zip]at hp;exact(List.of_mem_zip (a:=p.1) (b:=p.2) hp).1)) v j
 have hf:(r.params.zip args).foldl (λtmps (p:Tmp×bE)=>tmps.setIfInBounds p.1 p.2) r.tmps=(r.params.zip args).toList.foldl (λtmps (p:Tmp×bE)=>tmps.setIfInBounds p.1 p.2) r.tmps:=by
  rw[Array.foldl_toList]
 rw[<- hf]at u;refine Bb (r:=some l) hm k 1000 _ _ _ _ _ _ _ m u h (λD e L O S he J y=>?_);cases e with
 |normal=>
  obtain⟨V,w,z,he⟩:=he;refine⟨_,run_beginRound w z,?_⟩;refine Bb (r:=some l) hm k 1000 _ _ _ _ _ _ _ n y he (λK F M Q U c _ _=>?_);cases F with
  |normal=>obtain⟨C,f,i⟩:=c;exact⟨_,_,run_endRound none f,i⟩
  |ret=>obtain⟨C,f,i⟩:=c;exact⟨_,_,run_endRound (some .ret) f,i⟩
  |exit id=>obtain⟨C,f,i⟩:=c;exact⟨_,_,run_endRound (some (.exit id)) f,i⟩
  |goto t=>exact c.elim
  |panic E=>exact c.elim
  |outgrown=>exact c.elim
 |exit id=>exact he.elim
 |goto t=>exact he.elim
 |ret=>exact he.elim
 |panic E=>exact he.elim
 |outgrown=>exact he.elim
end
end Go.Vc
namespace Go.Mp
open Go Go.Vc
noncomputable abbrev P:cN:=Go.Proofs.Tryz.prog
abbrev lS:cc:=3
abbrev U0:cc:=4
abbrev U1:cc:=5
abbrev Bc:cc:=9
abbrev mr:cc:=22
abbrev Bd:cc:=23
abbrev sd:cc:=28
abbrev Be:cc:=35
abbrev HV:cc:=37
abbrev U2:cc:=39
abbrev w9:cc:=54
abbrev xa:cc:=60
abbrev U3:cc:=69
abbrev Bf:cc:=81
abbrev se:cc:=82
abbrev Bg:cc:=84
abbrev U4:cc:=97
abbrev U5:cc:=109
abbrev HW:cc:=117
abbrev U6:cc:=137
abbrev Bh:cc:=140
abbrev U7:cc:=179
abbrev HX:cc:=190
abbrev lT:cc:=194
abbrev xb:cc:=239
abbrev xc:cc:=245
abbrev sf:cc:=272
abbrev HY:cc:=276
abbrev xd:cc:=297
abbrev n1:bg5:=9
abbrev HZ:bg5:=16
abbrev uy:bg5:=17
abbrev Bi:bg5:=18
abbrev Bj:bg5:=19
abbrev H0:bg5:=20
abbrev n2:bg5:=21
abbrev H2:bg5:=22
abbrev si:bg5:=23
abbrev uz:bg5:=24
abbrev H3:bg5:=27
abbrev Bk:bg5:=28
abbrev H4:bg5:=29
abbrev uA:bg5:=30
abbrev Bl:bg5:=34
abbrev xe:bg5:=35
abbrev H5:bg5:=36
abbrev H6:bg5:=37
abbrev H7:bg5:=38
abbrev Bm:bg5:=39
abbrev Bn:bg5:=40
abbrev px:bg5:=41
abbrev q7:bg5:=43
abbrev Bo:bg5:=44
abbrev uB:bg5:=45
abbrev Bp:bg5:=46
abbrev Bq:bg5:=47
abbrev Br:bg5:=48
abbrev Bs:bg5:=49
abbrev Bt:bg5:=50
abbrev xf:bg5:=51
abbrev xg:bg5:=52
abbrev xh:bg5:=53
abbrev xi:bg5:=54
abbrev xj:bg5:=55
abbrev xk:bg5:=56
abbrev xl:bg5:=57
abbrev xm:bg5:=58
abbrev xn:bg5:=59
abbrev xo:bg5:=60
abbrev xp:bg5:=61
abbrev xq:bg5:=62
abbrev xr:bg5:=63
abbrev xt:bg5:=64
abbrev H8:bg5:=65
abbrev xu:bg5:=66
abbrev Bu:bg5:=67
abbrev xv:bg5:=68
abbrev sj:bg5:=69
abbrev H9:bg5:=70
abbrev xw:bg5:=72
abbrev Bv:bg5:=73
abbrev Ia:bg5:=74
abbrev Ib:bg5:=75
abbrev Ic:bg5:=76
abbrev xx:bg5:=77
abbrev Ie:bg5:=78
abbrev kb:bg5:=79
abbrev Ig:bg5:=80
abbrev Ih:bg5:=81
abbrev Bw:bg5:=82
abbrev Ii:bg5:=83
abbrev Ij:bg5:=84
abbrev Ik:bg5:=85
abbrev Bx:bg5:=86
abbrev xy:bg5:=87
abbrev xz:bg5:=88
abbrev Il:bg5:=89
abbrev Im:bg5:=90
abbrev Bz:bg5:=91
abbrev BA:bg5:=92
abbrev BB:bg5:=93
abbrev BC:bg5:=94
abbrev Io:bg5:=95
abbrev BD:bg5:=96
abbrev Ip:bg5:=97
abbrev Iq:bg5:=98
abbrev Ir:bg5:=99
abbrev It:bg5:=100
abbrev Iu:bg5:=101
abbrev uC:bg5:=102
abbrev n3:bg5:=103
abbrev xA:bg5:=105
abbrev sk:bg5:=106
abbrev BE:bg5:=107
abbrev Iw:bg5:=109
abbrev sm:bg5:=110
abbrev Ix:bg5:=111
abbrev Iy:bg5:=112
abbrev Iz:bg5:=113
abbrev IA:bg5:=114
abbrev IB:bg5:=115
abbrev BF:bg5:=116
abbrev IC:bg5:=117
abbrev sn:bg5:=118
abbrev BG:bg5:=119
abbrev xB:bg5:=120
abbrev so:bg5:=121
abbrev ID:bg5:=122
abbrev q8:bg5:=123
abbrev uD:bg5:=124
abbrev uE:bg5:=125
abbrev IE:bg5:=126
abbrev IF:bg5:=127
abbrev xC:bg5:=128
abbrev sq:bg5:=129
abbrev BH:bg5:=130
abbrev IG:bg5:=131
abbrev IH:bg5:=132
abbrev BI:bg5:=133
abbrev BJ:bg5:=134
abbrev II:bg5:=135
abbrev BK:bg5:=136
abbrev BL:bg5:=137
abbrev xD:bg5:=138
abbrev BM:bg5:=139
abbrev IJ:bg5:=140
abbrev IK:bg5:=141
abbrev BN:bg5:=142
abbrev BO:bg5:=143
abbrev IL:bg5:=144
abbrev xE:bg5:=145
abbrev uF:bg5:=146
abbrev IM:bg5:=147
abbrev BP:bg5:=148
abbrev IN:bg5:=149
abbrev IP:bg5:=150
abbrev IQ:bg5:=151
abbrev BQ:bg5:=152
abbrev IS:bg5:=153
abbrev BR:bg5:=154
abbrev IT:bg5:=155
abbrev BS:bg5:=156
abbrev ra:bg5:=157
abbrev BT:bg5:=158
abbrev uG:bg5:=159
abbrev BU:bg5:=160
abbrev xF:bg5:=161
abbrev BV:bg5:=164
abbrev sr:bg5:=165
abbrev BW:bg5:=166
abbrev BX:bg5:=167
abbrev BY:bg5:=168
abbrev BZ:bg5:=169
abbrev IU:bg5:=170
abbrev B0:bg5:=171
abbrev IV:bg5:=172
abbrev xG:bg5:=173
abbrev B1:bg5:=174
abbrev B2:bg5:=175
abbrev IW:bg5:=176
abbrev B3:bg5:=177
abbrev B4:bg5:=178
abbrev B5:bg5:=179
abbrev B6:bg5:=180
abbrev B7:bg5:=181
abbrev B8:bg5:=182
abbrev py:bg5:=183
abbrev IX:bg5:=184
abbrev IY:bg5:=185
abbrev B9:bg5:=186
abbrev Ca:bg5:=187
abbrev uH:bg5:=188
abbrev uI:bg5:=189
abbrev xH:bg5:=190
abbrev IZ:bg5:=191
abbrev Cb:bg5:=192
abbrev I0:bg5:=193
abbrev I1:bg5:=194
abbrev I2:bg5:=195
abbrev xI:bg5:=196
abbrev Cc:bg5:=197
abbrev Cd:bg5:=198
abbrev I3:bg5:=199
abbrev Ce:bg5:=200
abbrev xJ:bg5:=201
abbrev I4:bg5:=202
abbrev I5:bg5:=203
abbrev Cf:bg5:=204
abbrev Cg:bg5:=205
abbrev xK:bg5:=206
abbrev xL:bg5:=207
abbrev Ch:bg5:=208
abbrev Ci:bg5:=209
abbrev I6:bg5:=210
abbrev ss:bg5:=211
abbrev I7:bg5:=212
abbrev Cj:bg5:=213
abbrev uJ:bg5:=214
abbrev Ck:bg5:=215
abbrev Cl:bg5:=216
abbrev I8:bg5:=217
abbrev I9:bg5:=218
abbrev Cm:bg5:=219
abbrev Cn:bg5:=231
abbrev Co:bg5:=232
abbrev Cp:bg5:=233
abbrev Cq:bg5:=234
abbrev uK:bg5:=235
abbrev Cr:bg5:=236
abbrev Ct:bg5:=237
abbrev xM:bg5:=238
abbrev Ja:bg5:=239
abbrev Jb:bg5:=240
abbrev Cu:bg5:=241
abbrev Cv:bg5:=242
abbrev U8:bg5:=243
abbrev xN:bg5:=244
abbrev uL:bg5:=245
abbrev Jc:bg5:=246
abbrev Cw:bg5:=247
abbrev Jd:bg5:=248
abbrev Cx:bg5:=249
abbrev Je:bg5:=250
abbrev Jf:bg5:=251
abbrev Jg:bg5:=252
abbrev Jh:bg5:=253
abbrev Ji:bg5:=254
abbrev Jj:bg5:=255
abbrev Jk:bg5:=256
abbrev Cy:bg5:=257
abbrev Jl:bg5:=258
abbrev Cz:bg5:=259
abbrev Jm:bg5:=260
abbrev Jn:bg5:=261
abbrev xO:bg5:=262
abbrev CA:bg5:=263
abbrev Jo:bg5:=264
abbrev CB:bg5:=265
abbrev CC:bg5:=266
abbrev CD:bg5:=272
abbrev uM:bg5:=273
abbrev sv:bg5:=274
abbrev U9:bg5:=275
abbrev Jp:bg5:=276
abbrev CE:bg5:=277
abbrev xP:bg5:=278
abbrev Jq:bg5:=279
abbrev Jr:bg5:=280
abbrev sw:bg5:=281
abbrev uN:bg5:=282
abbrev CF:bg5:=283
abbrev xQ:bg5:=284
abbrev Js:bg5:=285
abbrev CG:bg5:=286
abbrev Jt:bg5:=287
abbrev Ju:bg5:=288
abbrev Jv:bg5:=289
abbrev Jw:bg5:=290
abbrev CH:bg5:=291
abbrev CI:bg5:=292
abbrev Jx:bg5:=293
abbrev CJ:bg5:=294
abbrev CK:bg5:=296
abbrev uO:bg5:=297
abbrev CL:bg5:=298
abbrev uP:bg5:=299
abbrev Jy:bg5:=300
abbrev CM:bg5:=301
abbrev CN:bg5:=302
abbrev Jz:bg5:=303
abbrev Va:bg5:=304
abbrev Vb:bg5:=305
abbrev JA:bg5:=306
abbrev JB:bg5:=307
abbrev JC:bg5:=308
abbrev xR:bg5:=309
abbrev xS:bg5:=310
noncomputable abbrev CO:Checked:=Go.Proofs.Tryz.checked
noncomputable abbrev m5:Func:=f9
def CP:P.funcs[n1]?=some m5:=func9
def cg:K1:=.one .raw
def il:K1:=.one .ptr
def lU:K1:=.one .slice
def pz:K1:=.agg [.int .i64,.int .i64]
def pA:K1:=.one .map
def rb:K1:=.one (.int .i64)
def xT:K1:=.one (.int .u8)
def xU:K1:=.one (.int .u64)
def xV:K1:=.agg [.ptr]
def xW:K1:=.agg [.int .i64,.int .i64,.bool]
def xX:K1:=.agg [.slice]
def xY:K1:=.agg [.ptr,.ptr,.ptr,.ptr,.ptr,.ptr,.ptr,.ptr,.ptr,.ptr,.ptr,.ptr,.ptr,.ptr,.ptr,.ptr,.int .u64,.int .u64,.int .u64,.int .u64,.int .u64,.int .u64,.int .u64,.int .u64,.int .u64,.int .u64,.int .u64,.int .u64,.int .u64,.int .u64,.int .u64,.int .u64,.int .u16]
def CQ:K1:=.one (.int .i32)
def JD:K1:=.agg [.int .i64,.int .i64,.bool,.int .u8]
def JF:K1:=.agg [.str,.int .u64]
def JG:K1:=.agg [.int .i64,.int .i64,.slice]
def JH:K1:=.agg [.int .i64,.int .i64,.int .i64,.int .i64,.int .i64]
def JI:K1:=.agg [.int .i64,.int .i64,.int .i64,.int .i64,.int .i64,.int .i64,.int .i64,.bool,.bool]
def JJ:K1:=.agg [.ptr,.ptr,.ptr]
def JK:K1:=.agg [.ptr,.ptr,.ptr,.ptr,.ptr,.ptr,.ptr,.ptr,.ptr,.ptr,.ptr,.map,.slice,.slice]
def JL:K1:=.agg [.int .i64,.int .i64,.int .i64,.int .i64,.int .i64,.ptr,.ptr,.int .i64,.int .i64,.slice]
def JM:K1:=.agg [.int .i64,.ptr]
def JN:K1:=.agg [.int .i64,.int .i64,.int .i64,.int .i64]
def JO:K1:=.agg [.map,.map,.map,.int .i64]
def JP:K1:=.agg [.int .i64,.int .i64,.bool,.bool]
def JQ:K1:=.agg [.int .i64,.bool]
def JR:K1:=.agg [.slice,.map,.int .i64]
def JS:K1:=.agg [.int .i64,.int .i64,.int .i64,.int .i64,.int .i64,.bool]
def JT:K1:=.agg [.int .i64,.slice]
def JU:K1:=.agg [.int .i64,.int .i64,.int .i64]
def JV:K1:=.agg [.int .i64,.int .u64]
def JW:K1:=.agg [.ptr,.ptr,.ptr,.str]
def JX:K1:=.agg [.int .u64,.int .u64,.int .u32,.int .u8,.int .u8,.int .u8,.int .u8,.raw,.ptr,.int .i32,.int .i32]
def uQ:bA K1:=[cg,cg,rb,rb,.one .bool,xT,xT,JD,JD,.one .str,.one .str,.one .str,xU,JF,JF,il,il,il,xV,xV,cg,CQ,lU,lU,cg,cg,il,cg,il,cg,cg,rb,JG,JG,cg,rb,JH,JH,cg,lU,cg,xW,xW,il,cg,cg,cg,cg,cg,cg,cg,cg,cg,pz,pz,rb,JI,JI,cg,cg,lU,cg,il,cg,cg,cg,cg,cg,cg,lU,.agg [.ptr,.slice],.agg [.ptr,.slice],il,il,il,JJ,JJ,il,il,il,il,pA,lU,JK,JK,cg,pA,cg,cg,pA,cg,il,JL,JL,JM,JM,cg,lU,xX,xX,cg,cg,cg,cg,cg,cg,JN,JN,cg,lU,il,.agg [.slice,.ptr],.agg [.slice,.ptr],cg,cg,cg,cg,pA,il,pA,pA,JO,JO,rb,JP,JP,cg,cg,il,xV,xV,cg,JQ,JQ,cg,cg,cg,pA,JR,JR,pA,.agg [.map],.agg [.map],pz,pz,cg,cg,cg,cg,cg,cg,cg,cg,cg,cg,cg,cg,cg,cg,cg,cg,JS,JS,cg,cg,cg,cg,cg,cg,cg,cg,cg,cg,cg,xU,cg,cg,cg,cg,lU,JT,JT,cg,cg,cg,lU,xX,xX,xW,xW,.agg [.ptr,.ptr],cg,il,cg,lU,cg,cg,cg,cg,cg,cg,cg,xU,cg,cg,cg,cg,cg,cg,cg,cg,cg,cg,cg,cg,cg,cg,cg,cg,cg,il,.agg [.ptr,.ptr,.ptr,.ptr,.ptr,.ptr,.ptr,.ptr,.ptr,.ptr,.ptr,.ptr,.ptr,.ptr,.ptr,.ptr],.arr 16 .u64,.one (.int .u16),xY,xY,xY,xY,cg,cg,cg,cg,cg,cg,cg,cg,cg,cg,pz,pz,cg,cg,cg,cg,cg,lU,JU,JU,cg,cg,cg,cg,cg,cg,cg,cg,cg,cg,cg,cg,cg,cg,cg,cg,cg,cg,il,cg,cg,cg,cg,cg,lU,cg,cg,pz,pz,cg,rb,cg,cg,cg,cg,cg,cg,.one (.int .u32),cg,cg,cg,.agg [.bool,.bool,.bool,.bool,.bool,.bool,.bool,.bool,.bool,.bool,.bool,.bool,.bool,.bool,.bool,.bool,.bool,.bool,.bool,.bool,.bool,.bool,.bool,.bool,.bool,.bool,.bool,.bool,.bool,.bool,.bool,.bool,.bool,.bool,.bool,.bool,.bool,.bool,.bool,.bool,.bool,.bool,.bool,.bool,.bool,.bool,.bool,.bool,.bool,.bool,.bool,.bool,.bool,.bool,.bool,.bool,.bool,.bool,.bool,.bool,.bool,.bool,.bool,.bool],cg,cg,cg,cg,cg,cg,cg,lU,cg,cg,cg,JV,JV,cg,cg,cg,cg,cg,cg,cg,cg,cg,cg,cg,cg,cg,cg,cg,.arr 16 .u8,.arr 16 .u8,cg,cg,xU,cg,cg,cg,il,cg,cg,cg,cg,cg,cg,cg,cg,cg,cg,cg,cg,cg,cg,cg,cg,cg,cg,il,cg,cg,cg,cg,cg,cg,il,cg,cg,.arr 64 .u8,cg,JW,JW,.agg [],.agg [],.agg [],xT,xT,cg,il,CQ,CQ,JX,JX,cg]
def fG(t:cc):K1:=uQ.getD t (.one .raw)
def CR:Kd:=.jg [.one (.int .i64),.one (.int .i64)]
def JY:Kd:=.jg [.one .slice,.one (.int .i64)]
def CS:bA Kd:=(uQ.take 371).map .k|>.set 0 (.jg [])|>.set 58 (.jg [.agg [.int .i64,.int .i64,.int .i64,.int .i64,.int .i64,.int .i64,.int .i64,.bool,.bool],.one (.int .i64)])|>.set 65 CR|>.set 126 (.jg [.agg [.int .i64,.int .i64,.bool,.bool],.one .bool])|>.set 152 CR|>.set 164 (.jg [.one (.int .i64),.agg [.int .i64,.int .i64,.int .i64,.int .i64,.int .i64,.bool],.one .bool])|>.set 166 (.jg [.one (.int .i64),.one .bool])|>.set 168 (.jg [.one (.int .u8),.one (.int .i64)])|>.set 175 (.jg [.one (.int .u64),.one .bool])|>.set 177 (.jg [.agg [.int .i64,.int .i64,.bool,.bool],.one (.int .i64)])|>.set 199 JY|>.set 203 (.jg [.agg [.int .i64,.int .i64,.int .i64,.int .i64,.int .i64,.bool],.one .bool])|>.set 206 (.jg [.one (.int .i64),.one (.int .i64),.one (.int .i64)])|>.set 231 JY|>.set 261 (.jg [.one .str,.one (.int .i64)])|>.set 268 (.jg [.agg [.int .i64,.int .i64],.one .bool])|>.set 279 CR|>.set 298 (.jg [.one (.int .u64),.one (.int .u64)])|>.set 314 (.jg [.one .str,.one .bool])|>.set 316 (.jg [.one (.int .u64),.one (.int .i64)])|>.set 336 (.jg [.one (.int .i64),.one (.int .i64),.one .bool])|>.set 343 (.jg [.one (.int .i64),.one (.int .u64)])
def gM(t:cc):Kd:=CS.getD t (.k (.one .raw))
abbrev pe(v:bE):PanicEntry:={v:=v,recovered:=false}
def cx(f:bg5):Bool:=[].contains f
def mixed:P.follows .mixedOrders=true:=Checked.mixed Go.Proofs.Tryz.checked
end Go.Mp
namespace Go
abbrev Iv(n:Int):bE:=.int .i64 n
abbrev Sv(s:Vc.Sl):bE:=.slice s.p s.n s.c
abbrev Pv(a:ch):bE:=.pointer a
abbrev Pb(b:Nat):bE:=.pointer (some ⟨b,0,none⟩)
end Go
namespace Go.Mp
open Go Go.Vc
def bM(A:dQ){g:bg5}{fn:Func}(args:cb bE)(K:bf9)(w:bI){S:Prop}(hf:P.funcs[g]?=some fn)(h:S)(a:k7 P A fn args.size=true:=by kernel_rfl)(b:kp P fG gM cx A fn args K (λ_ _=>False) w=S:=by kernel_rfl):Calls P g args w (cz K):=
 AG mixed hf a (by rw[b];exact h)
def z8(q:bA Nat:=[])(s:bA (Nat×bA (bA Nat)×bA Nat):=[])(l j:bA (Nat×bA (Nat×C1)):=[]):dQ:={quiet:=λd=>q.contains d,sig:=λr=>s.lookup r,loop:=λr=>(l.lookup r).getD [],join:=λr=>j.lookup r}
abbrev jQ:=List.range
abbrev jZ:=C1.int .i64
def qQ(f:bg5)(a:cb bE)(w:bI)(g:Int->bf8):Prop:=Calls P f a w λe w2=>∃a0,e=.returned (Iv a0)/\g a0 w2
def qZ(w:bI)(a:Addr)(n:Nat)(g:ch->Prop):Prop:=∃x,w.cell? (a.add n)=some (Pv x)/\g x
def qJ(f:bg5)(a:cb bE)(w:bI)(g:Sl->bf8):Prop:=Calls P f a w λe w2=>∃a0,e=.returned (Sv a0)/\g a0 w2
def qX(f:bg5)(a:cb bE)(w:bI)(g:Int->Int->Int->Int->Int->Int->Int->Bool->Bool->Int->bf8):Prop:=Calls P f a w λe w2=>∃a0,∃b,∃c,∃a3,∃a4,∃a5,∃d,∃h,∃i,∃a9,e=.returned (.tuple #[.agg #[Iv a0,Iv b,Iv c,Iv a3,Iv a4,Iv a5,Iv d,.bool h,.bool i],Iv a9])/\g a0 b c a3 a4 a5 d h i a9 w2
def qY(w:bI)(a:Addr)(g:Int->Int->Int->Int->Int->Int->Int->Bool->Bool->Prop):Prop:=∃a0,w.cell? (a.add 0)=some (Iv a0)/\∃b,w.cell? (a.add 1)=some (Iv b)/\∃c,w.cell? (a.add 2)=some (Iv c)/\∃a3,w.cell? (a.add 3)=some (Iv a3)/\∃a4,w.cell? (a.add 4)=some (Iv a4)/\∃a5,w.cell? (a.add 5)=some (Iv a5)/\∃d,w.cell? (a.add 6)=some (Iv d)/\∃e,w.cell? (a.add 7)=some (.bool e)/\∃f,w.cell? (a.add 8)=some (.bool f)/\g a0 b c a3 a4 a5 d e f
def qV(w:bI)(g:Addr->bf8):Prop:=Al (.cells #[Iv 0,Iv 0,Iv 0,Iv 0,Iv 0,Iv 0,Iv 0,.bool false,.bool false] 57) g w
def qU(l:bA bE)(a:Addr)(w:bI)(g:bf8):Prop:=kN l a g w
def qK(w:bI)(a:Addr)(n:Nat)(g:Sl->Prop):Prop:=∃x,w.cell? (a.add n)=some (Sv x)/\g x
def qG(w:bI)(a:Addr)(n:Nat)(v:bE)(g:ch->Prop):Prop:=∃x,w.cell? (a.add n)=some (Pv x)/\(Pv x)=v/\g x
def qH(f:bg5)(a:cb bE)(w:bI)(g:Int->Int->Int->Int->bf8):Prop:=Calls P f a w λe w2=>∃a0,∃b,∃c,∃a3,e=.returned (.agg #[Iv a0,Iv b,Iv c,Iv a3])/\g a0 b c a3 w2
def qN(f:bg5)(a:cb bE)(w:bI)(g:bf9):Prop:=Calls P f a w λe w2=>∃a0,e=.returned a0/\g a0 w2
def qM(w:bI)(a:Addr)(n:Nat)(g:bV Nat->Prop):Prop:=∃x,w.cell? (a.add n)=some (.map x)/\g x
def qR(f:bg5)(a:cb bE)(w:bI)(g:ch->bf8):Prop:=Calls P f a w λe w2=>∃a0,e=.returned (Pv a0)/\g a0 w2
def qP(w:bI)(a:Addr)(g:ch->ch->ch->Prop):Prop:=∃a0,w.cell? (a.add 0)=some (Pv a0)/\∃b,w.cell? (a.add 1)=some (Pv b)/\∃c,w.cell? (a.add 2)=some (Pv c)/\g a0 b c
def qO(a0:Int)(w:bI)(g:(Int->bf8)->Int->bf8):Prop:=∃(b:Int->bf8) (M:Int->bI->Nat),b a0 w/\∀_:Nat->bE,∀b0,∀w,b b0 w->g (λa v=>b a v/\M a v<M b0 w) b0 w
def qD(w:bI)(a:Addr)(g:Int->Prop):Prop:=∃x,w.cell? a=some (Iv x)/\g x
def qC(a:cb bE)(w:bI)(g:Addr->bf8):Prop:=Al (.cells a 3) g w
def qB(w:bI)(g:Addr->bf8):Prop:=Al (.cells #[Iv 0,Iv 0,Iv 0,Iv 0,Iv 0,Iv 0,Iv 0,Iv 0,Iv 0,Iv 0,Iv 0,Iv 0,Iv 0,Iv 0,Iv 0,Iv 0,Iv 0,Iv 0,Iv 0,Iv 0,Iv 0,Iv 0,Iv 0,Iv 0,Iv 0,Iv 0,Iv 0,Iv 0,Iv 0,Iv 0,Iv 0,Iv 0,Iv 0,Iv 0,Iv 0,Iv 0,Iv 0,Iv 0,Iv 0,Iv 0,Iv 0,Iv 0,Iv 0,Iv 0,Iv 0,Iv 0,Iv 0,Iv 0,Iv 0,Iv 0,Iv 0,Iv 0,Iv 0,Iv 0,Iv 0,Iv 0,Iv 0,Iv 0,Iv 0,Iv 0,Iv 0,Iv 0,Iv 0,Iv 0,Iv 0,Iv 0,Iv 0,Iv 0,Iv 0,Iv 0,Iv 0,Iv 0,Iv 0,Iv 0,Iv 0,Iv 0,Iv 0,Iv 0,Iv 0,Iv 0,Iv 0,Iv 0,Iv 0,Iv 0,Iv 0,Iv 0,Iv 0,Iv 0,Iv 0,Iv 0,Iv 0,Iv 0,Iv 0,Iv 0,Iv 0,Iv 0,Iv 0,Iv 0,Iv 0,Iv 0,Iv 0,Iv 0,Iv 0,Iv 0,Iv 0,Iv 0,Iv 0,Iv 0,Iv 0,Iv 0,Iv 0,Iv 0,Iv 0,Iv 0,Iv 0,Iv 0,Iv 0,Iv 0,Iv 0,Iv 0,Iv 0,Iv 0,Iv 0,Iv 0,Iv 0,Iv 0,Iv 0,Iv 0] 147) g w
def qF(f:bg5)(a:cb bE)(w:bI)(g:Bool->bf8):Prop:=Calls P f a w λe w2=>∃a0,e=.returned (.bool a0)/\g a0 w2
def qA(w:bI)(a:Addr)(g:Int->Int->Int->Int->Prop):Prop:=∃a0,w.cell? (a.add 0)=some (Iv a0)/\∃b,w.cell? (a.add 1)=some (Iv b)/\∃c,w.cell? (a.add 2)=some (Iv c)/\∃a3,w.cell? (a.add 3)=some (Iv a3)/\g a0 b c a3
def qE(f:bg5)(a:cb bE)(w:bI)(g:bf8):Prop:=Calls P f a w λe w2=>e=.returned (.tuple #[])/\g w2
def qL(w:bI)(a:Addr)(n:Nat)(g:Int->Prop):Prop:=∃x,w.cell? (a.add n)=some (Iv x)/\g x
def qI(a0 d:Int)(w:bI)(g:(Int->Int->bf8)->Int->Int->bf8):Prop:=∃(c:Int->Int->bf8) (M:Int->Int->bI->Nat),c a0 d w/\∀_:Nat->bE,∀b0 b1,∀w,c b0 b1 w->g (λa b v=>c a b v/\M a b v<M b0 b1 w) b0 b1 w
def qW(l:Sl)(i:Int)(k:Nat)(g:Addr->Prop):Prop:=cK l.p l.n i k g
def qz(w:bI)(g:Addr->bf8):Prop:=Al (.cells #[Iv 0,Iv 0,Iv 0,Iv 0,Iv 0,Iv 0,Iv 0,Iv 0,Iv 0,Iv 0,Iv 0,Iv 0,Iv 0,Iv 0,Iv 0,Iv 0,Iv 0,Iv 0,Iv 0,Iv 0,Iv 0,Iv 0,Iv 0,Iv 0,Iv 0,Iv 0,Iv 0,Iv 0,Iv 0,Iv 0,Iv 0,Iv 0,Iv 0,Iv 0,Iv 0,Iv 0,Iv 0,Iv 0,Iv 0,Iv 0,Iv 0,Iv 0,Iv 0,Iv 0,Iv 0,Iv 0,Iv 0,Iv 0,Iv 0,Iv 0,Iv 0,Iv 0,Iv 0,Iv 0,Iv 0,Iv 0,Iv 0,Iv 0,Iv 0,Iv 0,Iv 0,Iv 0,Iv 0,Iv 0,Iv 0,Iv 0,Iv 0,Iv 0,Iv 0,Iv 0,Iv 0,Iv 0,Iv 0,Iv 0,Iv 0,Iv 0,Iv 0,Iv 0,Iv 0,Iv 0,Iv 0,Iv 0,Iv 0,Iv 0,Iv 0,Iv 0,Iv 0,Iv 0,Iv 0,Iv 0,Iv 0,Iv 0,Iv 0,Iv 0,Iv 0,Iv 0,Iv 0,Iv 0,Iv 0,Iv 0,Iv 0,Iv 0,Iv 0,Iv 0,Iv 0,Iv 0,Iv 0,Iv 0,Iv 0,Iv 0,Iv 0,Iv 0,Iv 0,Iv 0,Iv 0,Iv 0,Iv 0,Iv 0,Iv 0,Iv 0,Iv 0,Iv 0,Iv 0,Iv 0,Iv 0,Iv 0,Iv 0,Iv 0,Iv 0,Iv 0,Iv 0,Iv 0,Iv 0,Iv 0,Iv 0,Iv 0,Iv 0,Iv 0,Iv 0,Iv 0,Iv 0,Iv 0,Iv 0,Iv 0,Iv 0,Iv 0,Iv 0,Iv 0,Iv 0,Iv 0,Iv 0,Iv 0,Iv 0,Iv 0,Iv 0,Iv 0,Iv 0,Iv 0,Iv 0,Iv 0,Iv 0,Iv 0,Iv 0,Iv 0,Iv 0,Iv 0,Iv 0,Iv 0,Iv 0,Iv 0,Iv 0,Iv 0,Iv 0,Iv 0,Iv 0,Iv 0,Iv 0,Iv 0,Iv 0,Iv 0,Iv 0,Iv 0,Iv 0,Iv 0,Iv 0,Iv 0,Iv 0,Iv 0,Iv 0,Iv 0,Iv 0,Iv 0,Iv 0,Iv 0,Iv 0,Iv 0,Iv 0,Iv 0,Iv 0,Iv 0,Iv 0,Iv 0,Iv 0,Iv 0,Iv 0,Iv 0,Iv 0,Iv 0,Iv 0,Iv 0,Iv 0,Iv 0,Iv 0,Iv 0,Iv 0,Iv 0,Iv 0,Iv 0,Iv 0,Iv 0,Iv 0,Iv 0,Iv 0,Iv 0,Iv 0,Iv 0,Iv 0,Iv 0,Iv 0,Iv 0,Iv 0,Iv 0,Iv 0,Iv 0,Iv 0,Iv 0,Iv 0,Iv 0,Iv 0,Iv 0,Iv 0,Iv 0,Iv 0,Iv 0,Iv 0,Iv 0,Iv 0,Iv 0,Iv 0,Iv 0,Iv 0,Iv 0,Iv 0,Iv 0,Iv 0,Iv 0] 151) g w
def qj(f:bg5)(a:cb bE)(w:bI)(g:Int->Int->bf8):Prop:=Calls P f a w λe w2=>∃a0,∃b,e=.returned (.tuple #[Iv a0,Iv b])/\g a0 b w2
def qx(w:bI)(g:Addr->bf8):Prop:=Al (.cells #[Iv 0,Iv 0,.bool false] 189) g w
def qy(w:bI)(a:Addr)(n:Nat)(g:Bool->Prop):Prop:=∃x,w.cell? (a.add n)=some (.bool x)/\g x
def qg(f:(bf8)->Prop)(g:bf8):Prop:=∃J,f J/\∀_:Nat->bE,∀w,J w->g w
def qh(f:(Bool->bf8)->Prop)(g:Bool->bf8):Prop:=∃J,f J/\∀_:Nat->bE,∀b0 w,J b0 w->g b0 w
def qm(w:bI)(a:Addr)(g:Bool->Prop):Prop:=∃x,w.cell? a=some (.bool x)/\g x
def qp(f:bg5)(a:cb bE)(w:bI)(g:Int->Bool->bf8):Prop:=Calls P f a w λe w2=>∃a0,∃b,e=.returned (.tuple #[Iv a0,.bool b])/\g a0 b w2
def qo(f:bg5)(a:cb bE)(w:bI)(g:Int->Int->bf8):Prop:=Calls P f a w λe w2=>∃a0,∃b,e=.returned (.tuple #[.int .u8 a0,Iv b])/\g a0 b w2
def qd(w:bI)(g:(bf8)->bf8):Prop:=∃(a:bf8) (M:bI->Nat),a w/\∀_:Nat->bE,∀w,a w->g (λv=>a v/\M v<M w) w
def qc(w:bI)(a:Addr)(g:Sl->Prop):Prop:=∃x,w.cell? a=some (Sv x)/\g x
def qb(w:bI)(a:Addr)(g:ch->Prop):Prop:=∃x,w.cell? a=some (Pv x)/\g x
def qf(a0:Sl)(d:Int)(w:bI)(g:(Sl->Int->bf8)->Sl->Int->bf8):Prop:=∃(c:Sl->Int->bf8) (M:Sl->Int->bI->Nat),c a0 d w/\∀_:Nat->bE,∀b0 b1,∀w,c b0 b1 w->g (λa b v=>c a b v/\M a b v<M b0 b1 w) b0 b1 w
def qa(w:bI)(a:Addr)(g:Int->Int->Bool->Prop):Prop:=∃a0,w.cell? (a.add 0)=some (Iv a0)/\∃b,w.cell? (a.add 1)=some (Iv b)/\∃c,w.cell? (a.add 2)=some (.bool c)/\g a0 b c
def ql(w:bI)(a:Addr)(g:Int->Int->Int->Prop):Prop:=∃a0,w.cell? (a.add 0)=some (Iv a0)/\∃b,w.cell? (a.add 1)=some (Iv b)/\∃c,w.cell? (a.add 2)=some (Iv c)/\g a0 b c
def qi(w:bI)(g:Addr->bf8):Prop:=Al (.cells #[Iv 0,Iv 0,Iv 0] 247) g w
def qw(w:bI)(g:Addr->bf8):Prop:=Al (.cells #[Iv 0,Iv 0] 239) g w
def q9(f:(Int->bf8)->Prop)(g:Int->bf8):Prop:=∃J,f J/\∀_:Nat->bE,∀b0 w,J b0 w->g b0 w
def zQ(f:bg5)(a:cb bE)(w:bI)(g:ByteArray->Int->bf8):Prop:=Calls P f a w λe w2=>∃a0,∃b,e=.returned (.tuple #[.string a0,Iv b])/\g a0 b w2
def zZ(w:bI)(a:Addr)(g:Int->Int->Prop):Prop:=∃a0,w.cell? (a.add 0)=some (Iv a0)/\∃b,w.cell? (a.add 1)=some (Iv b)/\g a0 b
def zJ(f:bg5)(a:cb bE)(w:bI)(g:ByteArray->bf8):Prop:=Calls P f a w λe w2=>∃a0,e=.returned (.string a0)/\g a0 w2
def zX(f:bg5)(a:cb bE)(w:bI)(g:Int->Int->Int->bf8):Prop:=Calls P f a w λe w2=>∃a0,∃b,∃c,e=.returned (.tuple #[Iv a0,Iv b,Iv c])/\g a0 b c w2
def zY(a:cb bE)(w:bI)(g:Addr->bf8):Prop:=Al (.cells a 162) g w
def zV(a0:Int)(e:Sl)(f:Int)(w:bI)(g:(Int->Sl->Int->bf8)->Int->Sl->Int->bf8):Prop:=∃(d:Int->Sl->Int->bf8) (M:Int->Sl->Int->bI->Nat),d a0 e f w/\∀_:Nat->bE,∀b0 b1 b2,∀w,d b0 b1 b2 w->g (λa b c v=>d a b c v/\M a b c v<M b0 b1 b2 w) b0 b1 b2 w
def zU(f:bg5)(a:cb bE)(w:bI)(g:Int->bf8):Prop:=Calls P f a w λe w2=>∃a0,e=.returned (.int .u64 a0)/\g a0 w2
def zK(w:bI)(g:Addr->bf8):Prop:=Al (.cells #[.bool false,.bool false,.bool false,.bool false,.bool false,.bool false,.bool false,.bool false,.bool false,.bool false,.bool false,.bool false,.bool false,.bool false,.bool false,.bool false,.bool false,.bool false,.bool false,.bool false,.bool false,.bool false,.bool false,.bool false,.bool false,.bool false,.bool false,.bool false,.bool false,.bool false,.bool false,.bool false,.bool false,.bool false,.bool false,.bool false,.bool false,.bool false,.bool false,.bool false,.bool false,.bool false,.bool false,.bool false,.bool false,.bool false,.bool false,.bool false,.bool false,.bool false,.bool false,.bool false,.bool false,.bool false,.bool false,.bool false,.bool false,.bool false,.bool false,.bool false,.bool false,.bool false,.bool false,.bool false] 289) g w
def zG(w:bI)(a:Addr)(v:bE)(g:Int->Prop):Prop:=∃x,w.cell? a=some (Iv x)/\(Iv x)=v/\g x
def zH(w:bI)(a:Addr)(n:Nat)(v:bE)(g:Int->Prop):Prop:=∃x,w.cell? (a.add n)=some (Iv x)/\(Iv x)=v/\g x
def zT(a0:Sl)(e f:Int)(w:bI)(g:(Sl->Int->Int->bf8)->Sl->Int->Int->bf8):Prop:=∃(d:Sl->Int->Int->bf8) (M:Sl->Int->Int->bI->Nat),d a0 e f w/\∀_:Nat->bE,∀b0 b1 b2,∀w,d b0 b1 b2 w->g (λa b c v=>d a b c v/\M a b c v<M b0 b1 b2 w) b0 b1 b2 w
def zN(f:bg5)(a:cb bE)(w:bI)(g:Int->Int->bf8):Prop:=Calls P f a w λe w2=>∃a0,∃b,e=.returned (.tuple #[.int .u64 a0,.int .u64 b])/\g a0 b w2
def zM(w:bI)(a:Addr)(g:Int->Int->Prop):Prop:=∃a0,w.cell? (a.add 0)=some (Iv a0)/\∃b,w.cell? (a.add 1)=some (.int .u64 b)/\g a0 b
def zS(w:bI)(a:Addr)(n:Nat)(v:bE)(g:bV Nat->Prop):Prop:=∃x,w.cell? (a.add n)=some (.map x)/\(.map x)=v/\g x
def zR(w:bI)(a:Addr)(g:Int->Int->Int->Int->Int->Bool->Prop):Prop:=∃a0,w.cell? (a.add 0)=some (Iv a0)/\∃b,w.cell? (a.add 1)=some (Iv b)/\∃c,w.cell? (a.add 2)=some (Iv c)/\∃a3,w.cell? (a.add 3)=some (Iv a3)/\∃a4,w.cell? (a.add 4)=some (Iv a4)/\∃a5,w.cell? (a.add 5)=some (.bool a5)/\g a0 b c a3 a4 a5
def zP(f:(Int->Int->bf8)->Prop)(g:Int->Int->bf8):Prop:=∃J,f J/\∀_:Nat->bE,∀b0 b1 w,J b0 b1 w->g b0 b1 w
def zO(f:bg5)(a:cb bE)(w:bI)(g:Int->Int->Bool->bf8):Prop:=Calls P f a w λe w2=>∃a0,∃b,∃c,e=.returned (.tuple #[Iv a0,Iv b,.bool c])/\g a0 b c w2
def zD(w:bI)(g:Addr->bf8):Prop:=Al (.cells #[.int .u8 0,.int .u8 0,.int .u8 0,.int .u8 0,.int .u8 0,.int .u8 0,.int .u8 0,.int .u8 0,.int .u8 0,.int .u8 0,.int .u8 0,.int .u8 0,.int .u8 0,.int .u8 0,.int .u8 0,.int .u8 0] 318) g w
def zC(f:bg5)(a:cb bE)(w:bI)(g:Int->Int->bf8):Prop:=Calls P f a w λe w2=>∃a0,∃b,e=.returned (.tuple #[Iv a0,.int .u64 b])/\g a0 b w2
def zB(f:bg5)(a:cb bE)(w:bI)(g:Int->Int->bf8):Prop:=Calls P f a w λe w2=>∃a0,∃b,e=.returned (.tuple #[.int .u64 a0,Iv b])/\g a0 b w2
def zF(f:bg5)(a:cb bE)(w:bI)(g:Sl->Int->bf8):Prop:=Calls P f a w λe w2=>∃a0,∃b,e=.returned (.tuple #[Sv a0,Iv b])/\g a0 b w2
def zA(a0 e f:Int)(w:bI)(g:(Int->Int->Int->bf8)->Int->Int->Int->bf8):Prop:=∃(d:Int->Int->Int->bf8) (M:Int->Int->Int->bI->Nat),d a0 e f w/\∀_:Nat->bE,∀b0 b1 b2,∀w,d b0 b1 b2 w->g (λa b c v=>d a b c v/\M a b c v<M b0 b1 b2 w) b0 b1 b2 w
def zL(w:bI)(a:Addr)(g:Int->Int->Int->Int->Int->Prop):Prop:=∃a0,w.cell? (a.add 0)=some (Iv a0)/\∃b,w.cell? (a.add 1)=some (Iv b)/\∃c,w.cell? (a.add 2)=some (Iv c)/\∃a3,w.cell? (a.add 3)=some (Iv a3)/\∃a4,w.cell? (a.add 4)=some (Iv a4)/\g a0 b c a3 a4
def zI(w:bI)(a:Addr)(g:Int->Int->Sl->Prop):Prop:=∃a0,w.cell? (a.add 0)=some (Iv a0)/\∃b,w.cell? (a.add 1)=some (Iv b)/\∃c,w.cell? (a.add 2)=some (Sv c)/\g a0 b c
def zW(w:bI)(g:Addr->bf8):Prop:=Al (.cells #[Iv 0,Iv 0,aN8] 33) g w
def zq(w:bI)(a:Addr)(g:Int->ch->Prop):Prop:=∃a0,w.cell? (a.add 0)=some (Iv a0)/\∃b,w.cell? (a.add 1)=some (Pv b)/\g a0 b
def zz(w:bI)(g:Addr->bf8):Prop:=Al (.cells #[Iv 0,Iv 0,.bool false] 42) g w
def zx(f:bg5)(a:cb bE)(w:bI)(g:Int->Int->Sl->bf8):Prop:=Calls P f a w λe w2=>∃a0,∃b,∃c,e=.returned (.agg #[Iv a0,Iv b,Sv c])/\g a0 b c w2
def zy(f:bg5)(a:cb bE)(w:bI)(g:Int->Int->Bool->Bool->Bool->bf8):Prop:=Calls P f a w λe w2=>∃a0,∃b,∃c,∃a3,∃a4,e=.returned (.tuple #[.agg #[Iv a0,Iv b,.bool c,.bool a3],.bool a4])/\g a0 b c a3 a4 w2
def zu(w:bI)(g:Addr->bf8):Prop:=Al (.cells #[Iv 0,Iv 0,.bool false,.bool false] 125) g w
def zk(f:bg5)(a:cb bE)(w:bI)(g:Int->Int->Int->Int->Int->Int->Bool->Bool->bf8):Prop:=Calls P f a w λe w2=>∃a0,∃b,∃c,∃a3,∃a4,∃a5,∃d,∃h,e=.returned (.tuple #[Iv a0,.agg #[Iv b,Iv c,Iv a3,Iv a4,Iv a5,.bool d],.bool h])/\g a0 b c a3 a4 a5 d h w2
def zg(w:bI)(g:Addr->bf8):Prop:=Al (.cells #[Iv 0,Iv 0,Iv 0,Iv 0,Iv 0,.bool false] 162) g w
def zh(f:bg5)(a:cb bE)(w:bI)(g:Int->Bool->bf8):Prop:=Calls P f a w λe w2=>∃a0,∃b,e=.returned (.tuple #[.int .u64 a0,.bool b])/\g a0 b w2
def zt(f:bg5)(a:cb bE)(w:bI)(g:Int->Int->Bool->Bool->Int->bf8):Prop:=Calls P f a w λe w2=>∃a0,∃b,∃c,∃a3,∃a4,e=.returned (.tuple #[.agg #[Iv a0,Iv b,.bool c,.bool a3],Iv a4])/\g a0 b c a3 a4 w2
def zn(w:bI)(a:Addr)(g:Int->Int->Bool->Bool->Prop):Prop:=∃a0,w.cell? (a.add 0)=some (Iv a0)/\∃b,w.cell? (a.add 1)=some (Iv b)/\∃c,w.cell? (a.add 2)=some (.bool c)/\∃a3,w.cell? (a.add 3)=some (.bool a3)/\g a0 b c a3
def zm(f:bg5)(a:cb bE)(w:bI)(g:Int->Int->Int->Int->Int->Bool->Bool->bf8):Prop:=Calls P f a w λe w2=>∃a0,∃b,∃c,∃a3,∃a4,∃a5,∃d,e=.returned (.tuple #[.agg #[Iv a0,Iv b,Iv c,Iv a3,Iv a4,.bool a5],.bool d])/\g a0 b c a3 a4 a5 d w2
def zo(w:bI)(a:Addr)(v:bE)(g:ch->Prop):Prop:=∃x,w.cell? a=some (Pv x)/\(Pv x)=v/\g x
def zb(a0:ch)(d:Int)(w:bI)(g:(ch->Int->bf8)->ch->Int->bf8):Prop:=∃(c:ch->Int->bf8) (M:ch->Int->bI->Nat),c a0 d w/\∀_:Nat->bE,∀b0 b1,∀w,c b0 b1 w->g (λa b v=>c a b v/\M a b v<M b0 b1 w) b0 b1 w
def zf(f:bg5)(a:cb bE)(w:bI)(g:Int->Int->Int->Int->Int->Bool->bf8):Prop:=Calls P f a w λe w2=>∃a0,∃b,∃c,∃a3,∃a4,∃a5,e=.returned (.agg #[Iv a0,Iv b,Iv c,Iv a3,Iv a4,.bool a5])/\g a0 b c a3 a4 a5 w2
def za(w:bI)(a:Addr)(n:Nat)(v:bE)(g:Bool->Prop):Prop:=∃x,w.cell? (a.add n)=some (.bool x)/\(.bool x)=v/\g x
def zw(w:bI)(g:Addr->bf8):Prop:=Al (.cells #[Iv 3,Iv 0,Iv 0,Iv 0,Iv 0,Iv 5,Iv 0,Iv 2,Iv 0,Iv 0,Iv 9,Iv 0,Iv 20,Iv 7,Iv 0,Iv 8,Iv 0,Iv 20,Iv 0,Iv 0,Iv 8,Iv 0,Iv 21,Iv 0,Iv 0] 37) g w
end Go.Mp
namespace Go.Mp
open Go Go.Vc Go.Proofs
variable{K:bf9}{w:bI}
variable(K w)
def JZ(c:ch)(g:Int):=
 NN c λa=>qZ w (a.add 1) 2 λd=>qQ xe #[Pv d,Iv g] w λe b=>K (Iv e) b
def J0(c:ch)(g:Int):=
 NN c λa=>qZ w (a.add 4) 2 λd=>qQ xe #[Pv d,Iv g] w λe b=>K (Iv e) b
def J1(c:ch)(id:Int):=
 qV w λb w2=>NN c λa3=>qZ w2 a3 10 λu=>qX px #[Pv u,Iv id] w2 λv x y m n o p q r s t=>qU [Iv v,Iv x,Iv y,Iv m,Iv n,Iv o,Iv p,.bool q,.bool r] b t λa=>qY a b λd e f g h i j k l=>K (.tuple #[.agg #[Iv d,Iv e,Iv f,Iv g,Iv h,Iv i,Iv j,.bool k,.bool l],Iv s]) a
def J2(c:ch):=
 NN c λa=>qZ w a 0 λb=>K (Pv b) w
def J3(c:ch)(g:Int):=
 qH Bt #[Pv c,Iv g] w λb d e f a=>K (Iv b) a
def J4(t:ch):=
 NN t λa=>qM w a 0 λd=>qN Bu #[.map d] w λe b=>qJ xu #[e] b λf c=>K (Sv f) c
def J5(t:ch)(id:Int):=
 qV w λa w2=>NN t λa3=>qM w2 a3 0 λF=>∃d:ch,gp P 117 (.map F) (Iv id) false w2 (Pv d)/\cond (!d.isNone) (NN d λE=>qY w2 E λG H I y z A B C D=>qU [Iv G,Iv H,Iv I,Iv y,Iv z,Iv A,Iv B,.bool C,.bool D] a w2 λb=>qY b a λe f g h i j k l m=>K (.tuple #[.agg #[Iv e,Iv f,Iv g,Iv h,Iv i,Iv j,Iv k,.bool l,.bool m],Iv 0]) b) (qU [Iv 0,Iv 0,Iv 0,Iv 0,Iv 0,Iv 0,Iv 0,.bool false,.bool false] a w2 λc=>qY c a λn o p q r s u v x=>K (.tuple #[.agg #[Iv n,Iv o,Iv p,Iv q,Iv r,Iv s,Iv u,.bool v,.bool x],Iv 2]) c)
def J6(t:ch)(g:Int):=
 qN Bv #[Pv t,Iv g] w λc a=>qJ xw #[c] a λd b=>K (Sv d) b
def J7:=
 Al (.cells #[Iv (-1),.bool true] 133) (λa w2=>Al (.cells #[.slice (some a) 1 1] 99) (λb c=>K (Pv (some b)) c) w2) w
def J8(n:Int):=
 Al (.cells #[Pv none,Pv none,Pv none] 76) (λb w2=>qR Ia #[Iv n] w2 λj g=>qR Ib #[Iv n] g λk h=>qR Ic #[] h λf i=>qU [Pv j,Pv k,Pv f] b i λa=>qP a b λc d e=>K (.agg #[Pv c,Pv d,Pv e]) a) w
def J9(bW:Sl):=
 mL (λo w2=>Al (.cells #[aN8,.map (some o),Iv 0] 139) (λd p=>((0:Int)<=(min1 ((bW.n:Nat):Int) 32)/\(min1 ((bW.n:Nat):Int) 32)<=((bW.c:Nat):Int))/\qO 0 p λn e a=>cond (decide (e<((((min1 ((bW.n:Nat):Int) 32).toNat-0):Nat):Int))) (cK (gi bW.p 0 bW.c 1) ((min1 ((bW.n:Nat):Int) 32).toNat-0) e 1 λf=>qD a f λl=>NN (some d) λg=>qK a g 0 λm=>qC #[Iv (min1 (eE l 0) 4096)] a λi j=>∃c:Sl,∃b:bI,Sem.run P (Builtin.append_ #[22,22] 22 #[Sv m,.slice (some i) 1 1]) j=.ok (Sv c) b/\NN (some d) λh=>St (h.add 0) (Sv c) (λk=>(n (i64.wrap (e+1)) k)) b) (K (Pv (some d)) a)) w2) w
def Ka:=
 mL (λa w2=>Al (.cells #[.map (some a)] 142) (λb c=>K (Pv (some b)) c) w2) w
def Kb:=
 qB w λa w2=>K (Pv (some a)) w2
def Ke:=
 mL (λa w2=>mL (λb e=>mL (λc f=>Al (.cells #[.map (some a),.map (some b),.map (some c),Iv 0] 122) (λd g=>K (Pv (some d)) g) f) e) w2) w
def Kg(c:ch)(g:Int):=
 Al (.cells #[Iv 0,Iv 0,Iv 0,Iv 0] 107) (λa w2=>qF xx #[Iv g] w2 λu d=>dN u (qU [Iv 0,Iv 0,Iv 0,Iv 0] a d λm=>qA m a λr s t h=>K (.agg #[Iv r,Iv s,Iv t,Iv h]) m) (NN c λe=>cK (some (e.add 0)) 64 g 4 λf=>qA d f λn o p q=>qU [Iv n,Iv o,Iv p,Iv q] a d λb=>qA b a λi j k l=>K (.agg #[Iv i,Iv j,Iv k,Iv l]) b)) w
def Kh(m:ch):=
 NN m λa=>qL w a 0 λb=>K (Iv b) w
def Ki(seq:bE):=
 qJ Iw #[aN8,seq] w λb a=>K (Sv b) a
def Kj(t:ch)(g:Int):=
 Al (.cells #[Pv t] 62) (λa w2=>qC #[Iv g] w2 λb c=>K (.func (.func sm) #[] #[Pv (some a),Pv (some b)]) c) w
def Kk(n:Int):=
 qR Ix #[Iv (min1 n 1024)] w λd b=>Al (.cells #[Pv d] 130) (λa c=>K (Pv (some a)) c) b
def Kl(n:Int):=
 ∃b:Sl,∃a:bI,Sem.run P (Instr.makeSlice 185 (Iv (min1 (eE n 0) 1024)) (Iv (min1 (eE n 0) 1024))) w=.ok (Sv b) a/\Al (.cells #[Sv b] 187) (λc d=>K (Pv (some c)) d) a
def Km:=
 qz w λb w2=>qO 0 w2 λe a d=>eg a 64 (NN (some b) λf=>cK (some (f.add 0)) 64 a 4 λa9=>St (a9.add 1) (Iv 1099511627776) (λc=>(e (i64.wrap (a+1)) c)) d) (K (Pv (some b)) d)
def Kn(g:Int):=
 cond (decide ((0:Int)<=g)) (K (.bool (decide (g<64))) w) (K aN2 w)
def Ko(c:ch)(parent:Int):=
 NN c λr=>qZ w r 0 λu=>qj Iy #[Pv u,Iv parent] w λq h g=>cond (h==0) (NN c λs=>qK g s 12 λv=>qx g λt m=>∃e:Sl,∃a:bI,Sem.run P (Builtin.append_ #[82,82] 82 #[Sv v,.slice (some t) 1 1]) m=.ok (Sv e) a/\NN c λi=>St (i.add 12) (Sv e) (λb=>NN c λj=>qK b j 13 λp=>qC #[Iv parent] b λl n=>∃f:Sl,∃d:bI,Sem.run P (Builtin.append_ #[22,22] 22 #[Sv p,.slice (some l) 1 1]) n=.ok (Sv f) d/\NN c λk=>St (k.add 13) (Sv f) (λo=>K (.tuple #[Iv q,Iv h]) o) d) a) (K (.tuple #[Iv q,Iv h]) g)
def Kp(t:ch)(g:Int):=
 cond (decide ((0:Int)<=g)) (NN t λa=>qK w a 0 λb=>fD g b.n (NN t λa3=>qK w a3 0 λc=>qW c g 2 λa5=>qy w a5 1 λd=>K (.bool d) w) (K aN2 w)) (K aN2 w)
def Kq(c:ch)(g:Int):=
 NN c λI=>qZ w I 0 λL=>qQ Iz #[Pv L,Iv g] w λH u=>NN c λJ=>qZ u J 0 λM=>qQ IA #[Pv M,Iv g] u λj l=>cond (j !=0) (K (Iv j) l) (NN c λo=>qZ l o 10 λA=>qJ IB #[Pv A,Iv g] l λk s=>qO 0 s λm d a=>fD d k.n (qW k d 1 λp=>qD a p λB=>NN c λa23=>qZ a a23 10 λC=>qQ BF #[Pv C,Iv B,Iv H] a λN t=>(m (i64.wrap (d+1)) t)) (NN c λa28=>qZ a a28 8 λD=>qQ IC #[Pv D,Iv g,Iv H] a λO v=>Dr (λb=>NN c λq=>qZ b (q.add 1) 2 λE=>NN c λa36=>qZ b (a36.add 4) 2 λF=>qO 0 b λn e h=>eg e 2 (∃f:ch,∃i:bI,Sem.run P (Instr.index 190 (.agg #[Pv E,Pv F]) (Iv e)) h=.ok (Pv f) i/\qC #[Iv g] i λr x=>qQ xe #[Pv f,Iv g] x λG y=>qQ sn #[Pv f,.slice (some r) 1 1,Iv G] y λQ z=>(n (i64.wrap (e+1)) z)) (K (Iv 0) h)) v))
def Kr(c:ch)(g what n:Int):=
 qg (λt=>NN c λa4=>qZ w a4 0 λu=>qF kb #[Pv u,Iv g] w λv b=>dN v (K (Iv 2) b) (eg n 0 (K (Iv 1) b) (cond (decide (n>1099511627776)) (K (Iv 1) b) (t b)))) λw2=>NN c λa9=>qK w2 a9 12 λo=>qW o g 3 λa=>cond (what==0) (NN (some a) λd=>St (d.add 0) (Iv n) (λi=>K (Iv 0) i) w2) (cond (what==1) (NN (some a) λe=>St (e.add 1) (Iv n) (λj=>K (Iv 0) j) w2) (cond (what==2) (NN c λf=>qZ w2 (f.add 1) 2 λp=>qQ BG #[Pv p,Iv g,Iv n] w2 λq k=>K (Iv q) k) (cond (what==3) (NN c λh=>qZ w2 (h.add 4) 2 λr=>qQ BG #[Pv r,Iv g,Iv n] w2 λs l=>K (Iv s) l) (cond (what==4) (cond (decide (n>1)) (K (Iv 1) w2) (NN (some a) λa26=>St (a26.add 2) (.bool (n==1)) (λm=>K (Iv 0) m) w2)) (K (Iv 1) w2)))))
def Ks(c:ch)(target:Int):=
 NN c λl=>qZ w l 0 λn=>qJ so #[Pv n,Iv target] w λj m=>qI 0 0 m λk n10 a b=>fD a j.n (qW j a 1 λd=>qD b d λg=>NN c λe=>qZ b e 8 λh=>qQ ID #[Pv h,Iv g] b λi f=>(k (i64.wrap (n10+i)) (i64.wrap (a+1)) f)) (K (Iv n10) b)
def Ku(c:ch)(target n:Int):=
 qg (λW=>NN c λa4=>qZ w a4 0 λX=>qF kb #[Pv X,Iv target] w λY o=>dN Y (K (Iv 0) o) (eg n 1 (K (Iv 0) o) (cond (decide (n>1000)) (K (Iv 0) o) (W o)))) λw2=>NN c λa9=>qZ w2 a9 0 λJ=>qJ so #[Pv J,Iv target] w2 λd D=>qJ q8 #[Pv c,Iv target,(.func (.func uD) #[] #[])] D λL E=>qJ q8 #[Pv c,Iv target,(.func (.func uE) #[] #[])] E λM F=>∃k:Sl,∃s:bI,Sem.run P (Instr.makeSlice 22 (Iv ((d.n:Nat):Int)) (Iv ((d.n:Nat):Int))) F=.ok (Sv k) s/\qO 0 s λp h f=>fD h d.n (qW d h 1 λa27=>qD f a27 λl=>qh (λr=>qW L l 1 λa33=>qm f a33 λO=>dN O (qW M l 1 λa35=>qm f a35 λQ=>r (!Q) f) (r false f)) λN i=>cond N (NN c λB=>qZ i B 8 λR=>qQ IE #[Pv R,Iv l] i λS G=>qW k h 1 λC=>St C (Iv S) (λH=>(p (i64.wrap (h+1)) H)) G) ((p (i64.wrap (h+1)) i))) (qJ IF #[Iv n,Sv k] f λy I=>qI 0 0 I λz g a j=>fD a y.n (qW y a 1 λa53=>qD j a53 λT=>qI g 0 j λq e m t=>eg m T (((0:Int)<=(i64.wrap (a+1))/\(i64.wrap (a+1))<=((d.c:Nat):Int))/\((0:Int)<=a/\a<=(((i64.wrap (a+1)).toNat:Nat):Int))/\qF xC #[Pv c,Iv target,.slice (gi d.p a.toNat d.c 1) ((i64.wrap (a+1)).toNat-a.toNat) (d.c-a.toNat),.bool false] t λU u=>cond U ((q (i64.wrap (e+1)) (i64.wrap (m+1)) u)) ((q e (i64.wrap (m+1)) u))) ((z e (i64.wrap (a+1)) t))) (qO g j λA b v=>eg b n (qF sq #[Pv c,Iv target] v λV x=>cond V ((A (i64.wrap (b+1)) x)) (K (Iv b) x)) (K (Iv b) v)))
def Kx(c:ch):=
 NN c λa=>qZ w a 7 λd=>qQ IH #[Pv d] w λe b=>K (Iv e) b
def Ky(c:ch)(file:Int):=
 NN c λa=>qZ w a 7 λd=>qQ BI #[Pv d,Iv file] w λe b=>K (Iv e) b
def Kz(c:ch)(id f:Int):=
 qp BO #[Pv c,Iv id] w λj k b=>dN k (K (.tuple #[.int .u8 0,Iv 2]) b) (NN c λa5=>qZ b (a5.add 1) 1 λl=>qo IL #[Pv l,Iv j,Iv f] b λi a d=>cond (a==0) (NN c λe=>qZ d e 8 λh=>qQ xE #[Pv h,Iv id] d λm g=>K (.tuple #[.int .u8 i,Iv a]) g) (K (.tuple #[.int .u8 i,Iv a]) d))
def KA(c:ch)(id i b:Int):=
 qp BO #[Pv c,Iv id] w λm n d=>dN n (K (Iv 2) d) (NN c λa5=>qZ d (a5.add 1) 1 λo=>qQ IQ #[Pv o,Iv m,Iv i,.int .u8 b] d λf e=>cond (f==0) (NN c λg=>qZ e g 8 λk=>qQ xE #[Pv k,Iv id] e λp a=>NN c λh=>qZ a h 10 λl=>qQ BQ #[Pv l,Iv id,.bool true] a λq j=>K (Iv f) j) (K (Iv f) e))
def KB(c:ch)(id n:Int):=
 NN c λam=>qZ w am 10 λan=>qj IT #[Pv an,Iv id,Iv n] w λao o m=>qg (λal=>cond (o !=0) (K (Iv o) m) (cond (decide (ao>0)) (K (Iv o) m) (al m))) λB=>NN c λp=>qZ B p 10 λC=>qX px #[Pv C,Iv id] B λD E F G H I J L M ap t=>qV t λa u=>qU [Iv D,Iv E,Iv F,Iv G,Iv H,Iv I,Iv J,.bool L,.bool M] a u λv=>Dr (λe=>NN c λa28=>qZ e a28 0 λN=>qL e a 4 λO=>qJ q7 #[Pv N,Iv O] e λk b=>qg (λd=>qL b a 2 λl=>cond (l==1) (qY b a λP Q R S T U V W X=>qE BS #[Pv c,Iv id,.agg #[Iv P,Iv Q,Iv R,Iv S,Iv T,Iv U,Iv V,.bool W,.bool X]] b λx=>Dr (λf=>NN c λq=>qP f (q.add 1) λY Z aa=>qL f a 3 λab=>qE ra #[.agg #[Pv Y,Pv Z,Pv aa],Iv ab,Sv k] f λi=>NN c λa57=>qZ i a57 8 λad=>qQ BT #[Pv ad,Iv id] i λaq y=>d y) x) (cond (l==2) (Dr (λg=>NN c λa63=>qP g (a63.add 4) λae af ag=>qL g a 3 λah=>qE ra #[.agg #[Pv ae,Pv af,Pv ag],Iv ah,Sv k] g λz=>d z) b) (d b))) λh=>NN c λr=>qZ h r 10 λai=>qQ uG #[Pv ai,Iv id,Iv 0,Iv 0] h λar j=>NN c λs=>qZ j s 10 λaj=>qQ BU #[Pv aj,Iv id] j λak A=>K (Iv ak) A) v
variable{K w}
def Vd(c g)(h:JZ K w c g):=bM {} #[Pv c,Iv g] K w func19 h
def Ve(c g)(h:J0 K w c g):=bM {} #[Pv c,Iv g] K w func20 h
def Vf(c id)(h:J1 K w c id):=bM {} #[Pv c,Iv id] K w func28 h
def Vg(c)(h:J2 K w c):=bM {} #[Pv c] K w func30 h
def Vh(c g)(h:J3 K w c g):=bM {} #[Pv c,Iv g] K w func35 h
def Vi(t)(h:J4 K w t):=bM {} #[Pv t] K w func39 h
def Vj(t id)(h:J5 K w t id):=bM (z8 [14]) #[Pv t,Iv id] K w func41 h
def Vk(t g)(h:J6 K w t g):=bM {} #[Pv t,Iv g] K w func43 h
def Vl(h:J7 K w):=bM {} #[] K w func44 h
def Vn(n)(h:J8 K w n):=bM {} #[Iv n] K w func45 h
def Vo(bW)(h:J9 K w bW):=bM (z8 [11,12,14,16,25,26,31] [] [(3,[(15,jZ)])]) #[Sv bW] K w func46 h
def Vp(h:Ka K w):=bM {} #[] K w func47 h
def Vq(h:Kb K w):=bM {} #[] K w func48 h
def Vr(h:Ke K w):=bM {} #[] K w func49 h
def Vt(c g)(h:Kg K w c g):=bM {} #[Pv c,Iv g] K w func50 h
def Vu(m)(h:Kh K w m):=bM {} #[Pv m] K w func70 h
def Vv(seq)(h:Ki K w seq):=bM {} #[seq] K w func72 h
def Vw(t g)(h:Kj K w t g):=bM {} #[Pv t,Iv g] K w func73 h
def Vx(n)(h:Kk K w n):=bM (z8 [4]) #[Iv n] K w func74 h
def Vy(n)(h:Kl K w n):=bM (z8 [4,5]) #[Iv n] K w func75 h
def Vz(h:Km K w):=bM (z8 [6,14] [] [(3,[(5,jZ)])]) #[] K w func76 h
def VA(g)(h:Kn K w g):=bM (z8 [4,7]) #[Iv g] K w func77 h
def VB(c parent)(h:Ko K w c parent):=bM (z8 [18]) #[Pv c,Iv parent] K w func78 h
def VC(t g)(h:Kp K w t g):=bM (z8 [6,13,14]) #[Pv t,Iv g] K w func79 h
def VD(c g)(h:Kq K w c g):=bM {(z8 [24,32,34,44,64,73] [] [(6,[(33,jZ)]),(12,[(63,jZ)])]:dQ)with head:=λr=>(bif r==11 then 12 else 0)} #[Pv c,Iv g] K w func80 h
def VE(c g what n)(h:Kr K w c g what n):=bM (z8 [20,23,33,39,45,55,65,67,70] [] [] [(5,[])]) #[Pv c,Iv g,Iv what,Iv n] K w func81 h
def VF(c target)(h:Ks K w c target):=bM (z8 [14,16,26,27] [] [(3,[(5,jZ),(15,jZ)])]) #[Pv c,Iv target] K w func84 h
def VG(c target n)(h:Ku K w c target n):=bM (z8 [25,29,44,47,49,74,78,80,86,92,96,97,98,101,108] [] [(6,[(48,jZ)]),(13,[(13,jZ),(79,jZ)]),(16,[(13,jZ),(85,jZ)]),(21,[(13,jZ)])] [(3,[]),(9,[(64,.bool)])]) #[Pv c,Iv target,Iv n] K w func85 h
def VH(c)(h:Kx K w c):=bM {} #[Pv c] K w func89 h
def VI(c file)(h:Ky K w c file):=bM {} #[Pv c,Iv file] K w func90 h
def VJ(c id a)(h:Kz K w c id a):=bM (z8 [32]) #[Pv c,Iv id,Iv a] K w func95 h
def VK(c id a b)(h:KA K w c id a b):=bM (z8 [30]) #[Pv c,Iv id,Iv a,.int .u8 b] K w func100 h
def VL(c id n)(h:KB K w c id n):=bM (z8 [23,26,48,68] [(5,[jQ 8],[6]),(9,[jQ 8],[7]),(12,[jQ 8],[7])] [] [(4,[]),(13,[])]) #[Pv c,Iv id,Iv n] K w func102 h
end Go.Mp
namespace Go.Mp
open Go Go.Vc Go.Proofs
variable{K:bf9}{w:bI}
variable(K w)
def CT(s:Sl)(seq:bE):=
 Al (.cells #[Sv s] 22) (λb w2=>iB P 13 seq #[7] (j9 f109.body) (ka f109.body) .ret (((((ji [Sv s,seq] 0 .nil).put (some 2) (Pv (some b))).put (some 4) (aN8)).put (some 6) seq)) w2 (λb3 a=>qc a b λd=>a.heap[b3]?=some (.deferred (some []))/\K (Sv d) (a.putObj b3 (.deferred none))) (λb4 c=>c.heap[b4]?=some (.deferred (some []))/\K (aN8) (c.putObj b4 (.deferred none)))) w
def CU(yield:bE)(e b:Addr):=
 qb w e λN=>qD w b λO=>qF kb #[Pv N,Iv O] w λQ M=>qd M λc f=>cond Q (qD f b λs=>cond (decide (s≥0)) (qD f b λt=>w7 P none yield #[Iv t] f λm g=>∃h,m=.returned (.bool h)/\dN h (K aN4 g) (Dr (λa=>(qb a e λi=>(NN i λd=>((qK a d 0 λu=>(qD a b λv=>(qW u v 2 λa20=>((qL a a20 0 λx=>(St b (Iv x) (λn=>(([]:bA Nat)= []/\(c n))) a)/\True)/\True)/\True)/\True)/\True)/\((qD a b λy=>(qK a d 0 λz=>(qW z y 2 λa25=>((qL a a25 0 λA=>(St b (Iv A) (λo=>(([]:bA Nat)= []/\(c o))) a)/\True)/\True)/\True)/\True)/\True)/\True))/\((qD a b λB=>((qK a d 0 λC=>(qW C B 2 λj=>((qL a j 0 λD=>(St b (Iv D) (λp=>(([]:bA Nat)= []/\(c p))) a)/\True)/\True)/\True)/\True)/\True)/\True)/\True))/\((qD a b λE=>(NN i λk=>((qK a k 0 λF=>(qW F E 2 λa36=>((qL a a36 0 λG=>(St b (Iv G) (λq=>(([]:bA Nat)= []/\(c q))) a)/\True)/\True)/\True)/\True)/\True)/\True)/\True)/\True))/\((qD a b λH=>(qb a e λI=>(NN I λa41=>((qK a a41 0 λJ=>(qW J H 2 λl=>((qL a l 0 λL=>(St b (Iv L) (λr=>(([]:bA Nat)= []/\(c r))) a)/\True)/\True)/\True)/\True)/\True)/\True)/\True)/\True)/\True)) g)) (K aN4 f)) (K aN4 f)
def KC(n:Int):=
 0<=(6:Int)/\∃b:Sl,∃a:bI,Sem.run P (Instr.makeSlice 179 (Iv ((i64.wrap ((i64.wrap ((min1 (eE n 0) 65536)+64))-1)).fdiv (2^(min (6:Int).toNat 64)))) (Iv ((i64.wrap ((i64.wrap ((min1 (eE n 0) 65536)+64))-1)).fdiv (2^(min (6:Int).toNat 64))))) w=.ok (Sv b) a/\Al (.cells #[Iv (min1 (eE n 0) 65536),Sv b] 181) (λc d=>K (Pv (some c)) d) a
def KD(t:ch)(parent:Int):=
 qF kb #[Pv t,Iv parent] w λm h=>dN m (K (.tuple #[Iv (-1),Iv 2]) h) (qQ BZ #[Pv t,Iv parent] h λn a=>cond (decide (n≥7)) (K (.tuple #[Iv (-1),Iv 21]) a) (NN t λl=>qK a l 0 λo=>cond (decide (((o.n:Nat):Int)≥64)) (K (.tuple #[Iv (-1),Iv 3]) a) (NN t λa9=>qK a a9 0 λj=>Al (.cells #[Iv parent,.bool true] 133) (λg i=>∃d:Sl,∃b:bI,Sem.run P (Builtin.append_ #[97,97] 97 #[Sv j,.slice (some g) 1 1]) i=.ok (Sv d) b/\NN t λe=>St (e.add 0) (Sv d) (λc=>NN t λf=>qK c f 0 λk=>K (.tuple #[Iv (i64.wrap (((k.n:Nat):Int)-1)),Iv 0]) c) b) a)))
def KE(t:ch)(g:Int):=
 qF kb #[Pv t,Iv g] w λc a=>dN c (K (Iv (-1)) a) (NN t λa4=>qK a a4 0 λd=>qW d g 2 λb=>qL a b 0 λe=>K (Iv e) a)
def KF(t:ch)(g:Int):=
 cond (g==0) (K (Iv 1) w) (qF kb #[Pv t,Iv g] w λe b=>dN e (K (Iv 2) b) (qJ IU #[Pv t,Iv g] b λf a=>cond (decide (((f.n:Nat):Int)>0)) (K (Iv 4) a) (NN t λd=>qK a d 0 λh=>qW h g 2 λa9=>St (a9.add 1) (.bool false) (λc=>K (Iv 0) c) a)))
def KG(t:ch)(owner:Int):=
 Al (.cells #[Pv t] 80) (λa w2=>qC #[Iv owner] w2 λd b=>qb b a λg=>qJ Bm #[Pv g] b λh e=>qJ B0 #[Sv h,(.func (.func IV) #[] #[Pv (some a),Pv (some d)])] e λc f=>K (Sv c) f) w
def KH(t:ch)(id owner:Int):=
 qC #[Iv owner] w λa w2=>qQ xG #[Pv t,Iv id,(.func (.func B1) #[] #[Pv (some a)])] w2 λc b=>K (Iv c) b
def KI(l:ch)(a c:Int):=
 qC #[Iv c] w λb w2=>qg (λe=>qD w2 b λh=>eg h 0 (K (Iv 0) w2) (qD w2 b λi=>cond (decide (i>16777216)) (K (Iv 0) w2) (e w2))) λf=>qQ B2 #[Pv l,Iv a,(.func (.func IW) #[] #[Pv (some b)])] f λd g=>K (Iv d) g
def KJ(c:ch)(chain:Sl)(n:Int):=
 qC #[Iv n] w λf w2=>qD w2 f λq=>qF B3 #[Sv chain,Iv q] w2 λr l=>dN r (K (Iv 1) l) (qQ B4 #[Pv c,Sv chain,(.func (.func B5) #[] #[Pv (some f)])] l λs m=>cond (decide (s≥0)) (K (Iv 2) m) (qO 0 m λg d a=>fD d chain.n (qW chain d 1 λh=>qD a h λe=>Dr (λb=>NN c λi=>cK (some (i.add 0)) 64 e 4 λj=>qL b j 0 λo=>qD b f λp=>NN c λa22=>cK (some (a22.add 0)) 64 e 4 λa23=>St (a23.add 0) (Iv (i64.wrap (o-p))) (λk=>(g (i64.wrap (d+1)) k)) b) a) (K (Iv 0) a)))
def KK(c:ch)(g n:Int):=
 qg (λh=>qF xx #[Iv g] w λi e=>dN i (K (Iv 1) e) (qF B6 #[Iv n] e λj f=>dN j (K (Iv 1) f) (h f))) λw2=>NN c λa=>cK (some (a.add 0)) 64 g 4 λb=>St (b.add 1) (Iv n) (λd=>K (Iv 0) d) w2
def KL(t:ch)(g:Int):=
 Al (.cells #[Pv t] 62) (λa w2=>qC #[Iv g] w2 λd b=>qb b a λi=>qD b d λj=>qF kb #[Pv i,Iv j] b λk c=>dN k (K (aN8) c) (qb c a λf=>qJ B7 #[Pv f,(.func (.func B8) #[] #[Pv (some a),Pv (some d)])] c λh e=>K (Sv h) e)) w
def KM(l:ch)(group:Int):=
 qQ B2 #[Pv l,Iv group,(.func (.func IX) #[] #[])] w λb a=>K (Iv b) a
def KN(c:ch)(target:Int)(own:bE):=
 NN c λai=>qK w ai 12 λU=>qf ⟨none,0,0⟩ 0 w λah f e x=>fD e U.n (qW U e 3 λa9=>qa x a9 λO Q R=>qx x λg E=>qU [Iv O,Iv Q,.bool R] g E λh=>NN c λz=>qK h z 13 λS=>qW S e 1 λA=>qD h A λT=>qi h λa F=>qU [Iv T,Iv 0,Iv 0] a F λj=>qg (λi=>NN c λa26=>qZ j a26 0 λV=>qF kb #[Pv V,Iv e] j λW l=>cond W (Dr (λm=>qa m g λr s t=>qQ Bj #[Pv c,Iv e] m λX n=>qa n g λY Z aa=>((.agg #[Iv Y,Iv Z,.bool aa]):bE)=(.agg #[Iv r,Iv s,.bool t])/\e1 P own #[.agg #[Iv r,Iv s,.bool t]] n λC G=>∃u,C=.returned (Iv u)/\St (a.add 1) (Iv X) (λH=>St (a.add 2) (Iv u) (λI=>i I) H) G) l) (i l)) λk=>ql k a λab ad ae=>Al (.cells #[Iv ab,Iv ad,Iv ae] 247) (λD J=>∃v:Sl,∃o:bI,Sem.run P (Builtin.append_ #[245,245] 245 #[Sv f,.slice (some D) 1 1]) J=.ok (Sv v) o/\(ah v (i64.wrap (e+1)) o)) k) (qJ IY #[Sv f,Iv target] x λaf L=>∃b:Sl,∃p:bI,Sem.run P (Instr.makeSlice 194 (Iv ((f.n:Nat):Int)) (Iv ((f.n:Nat):Int))) L=.ok (Sv b) p/\qO 0 p λy d q=>fD d b.n (qF B9 #[Sv f,Sv af,Iv target,Iv d] q λag M=>qW b d 1 λB=>St B (.bool ag) (λN=>(y (i64.wrap (d+1)) N)) M) (K (Sv b) q))
def VM(a b:Int)(c:Bool):=
 Al (.cells #[Iv a,Iv b,.bool c] 189) (λd w2=>qL w2 d 0 λe=>K (Iv e) w2) w
def VN(a b:Int)(c:Bool):=
 Al (.cells #[Iv a,Iv b,.bool c] 189) (λd w2=>qL w2 d 1 λe=>K (Iv e) w2) w
def KO(l:ch)(group:Int):=
 NN l λr=>qM w r 0 λs=>∃b:ch,∃o:bI,Sem.run P (Instr.range 140 (.map s)) w=.ok (Pv b) o/\qO 0 o λi n9 p=>(∃f:bI,Sem.run P (Instr.next (Pv b) false 0) p=.ok (.tuple #[.bool false]) f/\K (Iv n9) f)\/(∃j:bE,∃m:bE,∃g:bI,Sem.run P (Instr.next (Pv b) false 0) p=.ok (.tuple #[.bool true,j,m]) g/\∃k:bE,∃d:Int,∃e:Int,∃h:bI,Sem.run P (Instr.entry (Pv b)) g=.ok (.tuple #[k,.agg #[Iv d,Iv e]]) h/\qw h λc n=>qU [Iv d,Iv e] c n λa=>qL a c 0 λq=>cond (q==group) ((i (i64.wrap (n9+1)) a)) ((i n9 a)))
def KP(n:Int)(weights:Sl):=
 qF Ca #[Iv n,Sv weights] w λai Q=>dN ai (K (aN8) Q) (Dr (λT=>(∃j:Sl,∃W:bI,Sem.run P (Instr.makeSlice 22 (Iv ((weights.n:Nat):Int)) (Iv ((weights.n:Nat):Int))) T=.ok (Sv j) W/\qJ uH #[Sv weights] W λm ah=>qO n ah λz n14 p=>qg (λD=>cond (decide (n14>0)) (qQ uI #[Sv m] p λaa q=>cond (decide (aa>0)) (D q) (K (Sv j) q)) (K (Sv j) p)) λR=>qJ xH #[Iv n14,Sv m] R λx S=>qI n14 0 S λA n28 a c=>fD a x.n (qW x a 1 λF=>qD c F λh=>qW m a 1 λa32=>qD c a32 λi=>qW j a 1 λG=>qD c G λab=>qW j a 1 λa36=>St a36 (Iv (i64.wrap (ab+(min1 h i)))) (λr=>qW m a 1 λH=>qD r H λad=>qW m a 1 λa40=>St a40 (Iv (i64.wrap (ad-(min1 h i)))) (λU=>(A (i64.wrap (n28-(min1 h i))) (i64.wrap (a+1)) U)) r) c) ((z n28 c)))/\(qJ uH #[Sv weights] T λe V=>∃f:Sl,∃s:bI,Sem.run P (Instr.makeSlice 22 (Iv ((weights.n:Nat):Int)) (Iv ((weights.n:Nat):Int))) V=.ok (Sv f) s/\qO n s λB g t=>qg (λE=>cond (decide (g>0)) (qQ uI #[Sv e] t λae u=>cond (decide (ae>0)) (E u) (K (Sv f) u)) (K (Sv f) t)) λX=>qJ xH #[Iv g,Sv e] X λy Y=>qI g 0 Y λC o b d=>fD b y.n (qW y b 1 λI=>qD d I λk=>qW e b 1 λJ=>qD d J λl=>qW f b 1 λL=>qD d L λaf=>qW f b 1 λM=>St M (Iv (i64.wrap (af+(min1 k l)))) (λv=>qW e b 1 λN=>qD v N λag=>qW e b 1 λO=>St O (Iv (i64.wrap (ag-(min1 k l)))) (λZ=>(C (i64.wrap (o-(min1 k l))) (i64.wrap (b+1)) Z)) v) d) ((B o d)))) Q)
def KQ(c:ch)(target:Int):=
 NN c λa=>qZ w a 0 λe=>qJ so #[Pv e,Iv target] w λf b=>qF xC #[Pv c,Iv target,Sv f,.bool true] b λg d=>K (.bool g) d
def KR(s:ch):=
 NN s λa=>qK w a 0 λb=>K (Iv ((b.n:Nat):Int)) w
def KS(s:ch)(file:Int):=
 qg (λa=>eg file 0 (K (Iv 0) w) (NN s λa4=>qK w a4 0 λd=>cond (decide (file≥((d.n:Nat):Int))) (K (Iv 0) w) (a w))) λw2=>NN s λb=>qK w2 b 0 λe=>qW e file 1 λc=>qD w2 c λf=>K (Iv f) w2
def KT(c:ch)(j k g:Int):=
 Al (.cells #[Iv j,Iv k] 54) (λp w2=>qg (λL=>Dr (λq=>NN c λM=>qZ q M 7 λO=>zZ q p λP y=>zQ xL #[Pv O,.agg #[Iv P,Iv y]] q λQ z d=>cond (z !=0) (K (.tuple #[Iv (-1),Iv (-1),Iv 2]) d) (NN c λr=>qZ d r 0 λA=>qF kb #[Pv A,Iv g] d λB m=>dN B (K (.tuple #[Iv (-1),Iv (-1),Iv 2]) m) (L m))) w2) λN=>Dr (λe=>NN c λs=>qZ e s 10 λC=>zZ e p λD E=>qQ Ch #[Pv C,.agg #[Iv D,Iv E]] e λh n=>q9 (λl=>eg h 0 (Dr (λf=>NN c λa33=>qZ f a33 10 λF=>zZ f p λG H=>qj Ci #[Pv F,.agg #[Iv G,Iv H],Iv g] f λI R v=>l I v) n) (l h n)) λa u=>qj Cg #[Pv c,Iv a,Iv g] u λo i b=>cond (i==0) (K (.tuple #[Iv a,Iv (-1),Iv 0]) b) (eg h 0 (NN c λt=>qZ b t 10 λJ=>qQ BU #[Pv J,Iv a] b λS x=>K (.tuple #[Iv (-1),Iv o,Iv i]) x) (K (.tuple #[Iv (-1),Iv o,Iv i]) b))) N) w
def KU(c:ch)(id:Int):=
 NN c λm=>qZ w m 10 λo=>qX px #[Pv o,Iv id] w λp q r s t g h i j k n=>qV n λb e=>qU [Iv p,Iv q,Iv r,Iv s,Iv t,Iv g,Iv h,.bool i,.bool j] b e λf=>Dr (λa=>qL a b 3 λd=>cond (k==0) (qL a b 2 λl=>K (.tuple #[Iv d,.bool (l==1)]) a) (K (.tuple #[Iv d,.bool false]) a)) f
def KV(s:ch)(i a:Int):=
 qR ss #[Pv s,Iv i] w λc b=>cond c.isNone (K (.tuple #[.int .u8 0,Iv 1]) b) (eg a 0 (K (.tuple #[.int .u8 0,Iv 1]) b) (cond (decide (a≥16)) (K (.tuple #[.int .u8 0,Iv 1]) b) (NN c λa4=>cK (some a4) 16 a 1 λa5=>∃d:Int,b.cell? a5=some (.int .u8 d)/\K (.tuple #[.int .u8 d,Iv 0]) b)))
def KW(l:ch)(id:Int):=
 NN l λk=>qM w k 0 λn=>∃h:Int,∃i:Int,∃j:Bool,gp P 140 (.map n) (Iv id) true w (.tuple #[.agg #[Iv h,Iv i],.bool j])/\qw w λd m=>qU [Iv h,Iv i] d m λe=>dN j (K (Iv 2) e) (Dr (λb=>NN l λc=>qM b c 0 λf=>qL b d 0 λg=>∃a:bI,Sem.run P (Instr.mapUpdate 140 (.map f) (Iv id) (.agg #[Iv g,Iv 0])) b=.ok () a/\K (Iv 0) a) e)
def KX(c:ch)(id g:Int):=
 NN c λH=>qZ w H 10 λJ=>qX px #[Pv J,Iv id] w λL M N O P l m n o p I=>qV I λb i=>qU [Iv L,Iv M,Iv N,Iv O,Iv P,Iv l,Iv m,.bool n,.bool o] b i λd=>qg (λf=>cond (p !=0) (K (.tuple #[Iv (-1),Iv (-1),Iv 2]) d) (NN c λh=>qZ d h 0 λq=>qF kb #[Pv q,Iv g] d λr a=>dN r (K (.tuple #[Iv (-1),Iv (-1),Iv 2]) a) (qL a b 2 λs=>cond (s==0) (K (.tuple #[Iv (-1),Iv (-1),Iv 2]) a) (f a)))) λe=>qY e b λt u v x y z A B C=>zJ uJ #[Pv c,.agg #[Iv t,Iv u,Iv v,Iv x,Iv y,Iv z,Iv A,.bool B,.bool C]] e λD j=>zX Cj #[Pv c,Iv g,.string D] j λE F G k=>K (.tuple #[Iv E,Iv F,Iv G]) k
def KY(c:ch)(g:Int):=
 NN c λj=>qZ w j 0 λl=>qF kb #[Pv l,Iv g] w λm b=>dN m (K (.tuple #[Iv (-1),Iv (-1),Iv 2]) b) (∃h:Sl,∃a:bI,Sem.run P (Instr.makeSlice 272 (Iv 16) (Iv 16)) b=.ok (Sv h) a/\∃i:ByteArray,tQ P 272 9 (Sv h) a (.string i)/\zX Cj #[Pv c,Iv g,.string i] a λd e f k=>K (.tuple #[Iv d,Iv e,Iv f]) k)
def KZ(s:ch)(i a b:Int):=
 qR ss #[Pv s,Iv i] w λd c=>cond d.isNone (K (Iv 1) c) (eg a 0 (K (Iv 1) c) (cond (decide (a≥16)) (K (Iv 1) c) (NN d λa4=>cK (some a4) 16 a 1 λa5=>St a5 (.int .u8 b) (λe=>K (Iv 0) e) c)))
def K0(t:ch)(id:Int)(e7:Bool):=
 Al (.cells #[.bool e7] 4) (λa w2=>qQ xG #[Pv t,Iv id,(.func (.func Ck) #[] #[Pv (some a)])] w2 λc b=>K (Iv c) b) w
def K2(s:Sl):=
 cond s.p.isNone (K (aN8) w) (zY #[] w λc w2=>∃b:Sl,∃a:bI,Sem.run P (Builtin.append_ #[109,109] 109 #[.slice (some c) 0 0,Sv s]) w2=.ok (Sv b) a/\K (Sv b) a)
def K3(t:ch)(id n:Int):=
 NN t λe=>qM w e 0 λh=>∃a:ch,gp P 117 (.map h) (Iv id) false w (Pv a)/\cond a.isNone (K (.tuple #[Iv 0,Iv 2]) w) (cond (decide (n<(-1000))) (K (.tuple #[Iv 0,Iv 1]) w) (cond (decide (n>1000)) (K (.tuple #[Iv 0,Iv 1]) w) (NN a λa4=>qL w a4 5 λi=>cond (decide ((i64.wrap (i+n))<0)) (K (.tuple #[Iv 0,Iv 1]) w) (NN a λf=>qL w f 5 λj=>NN a λg=>St (g.add 5) (Iv (i64.wrap (j+n))) (λc=>NN a λb=>qL c b 5 λd=>K (.tuple #[Iv d,Iv 0]) c) w))))
def K4(c:ch)(id k l m n o p q:Int)(r s:Bool):=
 Al (.cells #[Iv k,Iv l,Iv m,Iv n,Iv o,Iv p,Iv q,.bool r,.bool s] 57) (λa w2=>qh (λj=>qL w2 (a.add 0) 0 λL=>cond (decide (L≥0)) (qy w2 a 8 λM=>j M w2) (j false w2)) λJ u=>cond J (Dr (λd=>NN c λe=>qZ d e 7 λg=>zZ d (a.add 0) λh i=>qY d a λv x y z A B C D E=>zJ uJ #[Pv c,.agg #[Iv v,Iv x,Iv y,Iv z,Iv A,Iv B,Iv C,.bool D,.bool E]] d λF b=>zZ b (a.add 0) λG H=>((.agg #[Iv G,Iv H]):bE)=(.agg #[Iv h,Iv i])/\qG b e 7 (Pv g) λN=>qQ Cl #[Pv g,.agg #[Iv h,Iv i],.string F] b λO f=>NN c λa32=>qZ f a32 10 λI=>qQ BQ #[Pv I,Iv id,.bool false] f λP t=>K aN4 t) u) (K aN4 u)) w
def K5(c d e:ch)(a:Int)(chain:Sl):=
 Al (.cells #[Pv c,Pv d,Pv e] 76) (λb w2=>qZ w2 b 1 λj=>qQ I8 #[Pv j,Iv a] w2 λn g=>qZ g b 0 λk=>qQ I9 #[Pv k,Iv a] g λl h=>qZ h b 2 λi=>qQ sn #[Pv i,Sv chain,Iv 1] h λm f=>K aN4 f) w
def K6(l:ch)(id:Int):=
 NN l λg=>qM w g 0 λj=>∃d:Int,∃e:Int,∃f:Bool,gp P 140 (.map j) (Iv id) true w (.tuple #[.agg #[Iv d,Iv e],.bool f])/\qw w λh i=>qU [Iv d,Iv e] h i λb=>dN f (K (Iv 2) b) (NN l λa9=>qM b a9 0 λc=>∃a:bI,Sem.run P (Builtin.delete_ #[140,3] 0 #[.map c,Iv id]) b=.ok (.tuple #[]) a/\K (Iv 0) a)
def K7(t:ch)(id place a:Int):=
 NN t λak=>qM w ak 0 λam=>∃b:ch,gp P 117 (.map am) (Iv id) false w (Pv b)/\cond b.isNone (K (Iv 2) w) (eg place 0 (K (Iv 1) w) (cond (decide (place>2)) (K (Iv 1) w) (eg a 0 (K (Iv 1) w) (cond (place==0) (cond (a !=0) (K (Iv 1) w) (qQ Cm #[Pv t,Iv place,Iv a] w λah v=>cond (decide (ah≥0)) (cond (ah !=id) (K (Iv 4) v) (Dr (λk=>NN t λal=>qM k al 2 λan=>NN b λx=>qL k x 2 λT=>NN b λy=>qL k y 3 λU=>∃l:bI,Sem.run P (Builtin.delete_ #[120,276] 0 #[.map an,.agg #[Iv T,Iv U]]) k=.ok (.tuple #[]) l/\NN b λz=>St (z.add 2) (Iv place) (λQ=>NN b λA=>St (A.add 3) (Iv a) (λf=>cond (place !=0) (NN t λB=>qM f B 2 λV=>∃m:bI,Sem.run P (Instr.mapUpdate 120 (.map V) (.agg #[Iv place,Iv a]) (Iv id)) f=.ok () m/\K (Iv 0) m) (K (Iv 0) f)) Q) l) v)) (Dr (λc=>NN t λa23=>qM c a23 2 λW=>NN b λa25=>qL c a25 2 λX=>NN b λa27=>qL c a27 3 λY=>∃n:bI,Sem.run P (Builtin.delete_ #[120,276] 0 #[.map W,.agg #[Iv X,Iv Y]]) c=.ok (.tuple #[]) n/\NN b λC=>St (C.add 2) (Iv place) (λR=>NN b λa32=>St (a32.add 3) (Iv a) (λg=>cond (place !=0) (NN t λD=>qM g D 2 λZ=>∃o:bI,Sem.run P (Instr.mapUpdate 120 (.map Z) (.agg #[Iv place,Iv a]) (Iv id)) g=.ok () o/\K (Iv 0) o) (K (Iv 0) g)) R) n) v))) (qQ Cm #[Pv t,Iv place,Iv a] w λu h=>cond (decide (u≥0)) (cond (u !=id) (K (Iv 4) h) (Dr (λd=>NN t λa41=>qM d a41 2 λaa=>NN b λE=>qL d E 2 λab=>NN b λF=>qL d F 3 λad=>∃p:bI,Sem.run P (Builtin.delete_ #[120,276] 0 #[.map aa,.agg #[Iv ab,Iv ad]]) d=.ok (.tuple #[]) p/\NN b λG=>St (G.add 2) (Iv place) (λS=>NN b λH=>St (H.add 3) (Iv a) (λi=>cond (place !=0) (NN t λI=>qM i I 2 λae=>∃q:bI,Sem.run P (Instr.mapUpdate 120 (.map ae) (.agg #[Iv place,Iv a]) (Iv id)) i=.ok () q/\K (Iv 0) q) (K (Iv 0) i)) S) p) h)) (Dr (λe=>NN t λJ=>qM e J 2 λaf=>NN b λL=>qL e L 2 λag=>NN b λM=>qL e M 3 λai=>∃r:bI,Sem.run P (Builtin.delete_ #[120,276] 0 #[.map af,.agg #[Iv ag,Iv ai]]) e=.ok (.tuple #[]) r/\NN b λa63=>St (a63.add 2) (Iv place) (λcP=>NN b λN=>St (N.add 3) (Iv a) (λj=>cond (place !=0) (NN t λO=>qM j O 2 λaj=>∃s:bI,Sem.run P (Instr.mapUpdate 120 (.map aj) (.agg #[Iv place,Iv a]) (Iv id)) j=.ok () s/\K (Iv 0) s) (K (Iv 0) j)) cP) r) h))))))
def K8(t:ch)(id:Int):=
 NN t λk=>qM w k 0 λm=>∃b:ch,gp P 117 (.map m) (Iv id) false w (Pv b)/\cond b.isNone (K (Iv 2) w) (NN b λa4=>qL w a4 5 λn=>cond (decide (n>0)) (K (Iv 4) w) (NN b λl=>qL w l 2 λo=>cond (o !=0) (K (Iv 4) w) (Dr (λd=>NN t λa9=>qM d a9 1 λg=>NN b λe=>zZ d (e.add 0) λh i=>∃a:bI,Sem.run P (Builtin.delete_ #[119,54] 0 #[.map g,.agg #[Iv h,Iv i]]) d=.ok (.tuple #[]) a/\NN t λf=>qM a f 0 λj=>∃c:bI,Sem.run P (Builtin.delete_ #[117,3] 0 #[.map j,Iv id]) a=.ok (.tuple #[]) c/\K (Iv 0) c) w)))
variable{K w}
def sx:dQ:={}
def CV:Nat->Bool:=λd=>[].contains d
def VO(s:Sl)(seq:bE)(K:bf9)(w:bI):m3 P fG gM cx sx CV f109 #[(.slice s.p s.n s.c),seq] K w=CT K w s seq:=by kernel_rfl
def VP:m4 P sx f109 2=true:=by kernel_rfl
def VQ(s:Sl)(seq:bE){K:bf9}{w:bI}(h:CT K w s seq):Calls P Iw #[(Sv s),seq] w (cz K):=n0 mixed func109 VP (by rw[VO];exact h)
def K9(d:Addr)(j:Int)(c:Nat)(w:bI)(R:Ending->bf8):Prop:=
 lk c (λg=>qc g d λi=>qC #[Iv j] g λh e=>∃b:Sl,∃a:bI,Sem.run P (Builtin.append_ #[22,22] 22 #[Sv i,.slice (some h) 1 1]) e=.ok (Sv b) a/\St d (Sv b) (λf=>e3 c none R f) a) w
def VR(s:Sl)(seq:bE)(b:Addr)(c:Int)(a:Nat)(w:bI)(R:Ending->bf8):mo P fG gM cx sx CV 13 a (j9 f109.body) (ka f109.body) (ln [(7,.int .i64 c)] ((((ji [(.slice s.p s.n s.c),seq] 0 .nil).put (some 2) (.pointer (some b))).put (some 4) (aN8)).put (some 6) seq)) w R=K9 b c a w R:=by kernel_rfl
def VS:gL P 13 sx (j9 f109.body)=true/\gL P 13 sx (ka f109.body)=true:=⟨by kernel_rfl,by kernel_rfl⟩
def La:dQ:={quiet:=λd=>[11].contains d,loop:=λr=>(bif r==1 then[]else[])}
def VT:Nat->Bool:=λd=>[23].contains d
def VU(yield:bE)(b a:Addr)(K:bf9)(w:bI):m3 P fG gM cx La VT f110 #[yield,(.pointer (some b)),(.pointer (some a))] K w=CU K w yield b a:=by kernel_rfl
def VV:m4 P La f110 3=true:=by kernel_rfl
def VW(yield:bE)(b a:Addr){K:bf9}{w:bI}(h:CU K w yield b a):Calls P sm #[yield,(Pv (some b)),(Pv (some a))] w (cz K):=n0 mixed func110 VV (by rw[VU];exact h)
def VX(n)(h:KC K w n):=bM (z8 [4,5,8,9,10]) #[Iv n] K w func111 h
def VY(t parent)(h:KD K w t parent):=bM (z8 [15,21,22,38,39]) #[Pv t,Iv parent] K w func112 h
def VZ(t g)(h:KE K w t g):=bM {} #[Pv t,Iv g] K w func113 h
def V2(t g)(h:KF K w t g):=bM (z8 [7,17,18]) #[Pv t,Iv g] K w func114 h
def V3(t owner)(h:KG K w t owner):=bM {} #[Pv t,Iv owner] K w func115 h
def V4(t id owner)(h:KH K w t id owner):=bM {} #[Pv t,Iv id,Iv owner] K w func116 h
def V5(l a b)(h:KI K w l a b):=bM (z8 [8,11] [] [] [(3,[])]) #[Pv l,Iv a,Iv b] K w func117 h
def V6(c chain n)(h:KJ K w c chain n):=bM (z8 [19,21,23,34,39] [(8,[jQ 14],[13])] [(6,[(22,jZ)])]) #[Pv c,Sv chain,Iv n] K w func118 h
def V7(c g n)(h:KK K w c g n):=bM (z8 [] [] [] [(3,[])]) #[Pv c,Iv g,Iv n] K w func119 h
def V8(t g)(h:KL K w t g):=bM {} #[Pv t,Iv g] K w func121 h
def V9(l group)(h:KM K w l group):=bM {} #[Pv l,Iv group] K w func122 h
def Wa(c target own)(h:KN K w c target own):=bM {(z8 [18,20,50,55,58,60,70] [(7,[[0,1,3,4,2,6,5,7,8,9]],[2,5,7,9])] [(3,[(7,.slice),(19,jZ)]),(13,[(59,jZ)])] [(8,[])]:dQ)with dyn:=λd=>[43].contains d} #[Pv c,Iv target,own] K w func123 h
def Wb(a b c)(h:VM K w a b c):=bM {} #[.agg #[Iv a,Iv b,.bool c]] K w func124 h
def Wc(a b c)(h:VN K w a b c):=bM {} #[.agg #[Iv a,Iv b,.bool c]] K w func125 h
def Wd(l group)(h:KO K w l group):=bM {(z8 [20,22] [] [(3,[(5,jZ)])]:dQ)with Ap:=λd=>(bif d==15 then[.one .raw,.agg [.int .i64,.int .i64]]else[.one .raw,.one .raw])} #[Pv l,Iv group] K w func126 h
def We(n weights)(h:KP K w n weights):=bM (z8 [15,20,24,29,31,40,46,53,57,58] [(3,[[0,1,3,2,4,5,6],[0,1,3,4,2,5,6]],[2,4])] [(4,[(0,jZ)]),(6,[(0,jZ),(30,jZ)])] [(5,[])]) #[Iv n,Sv weights] K w func127 h
def Wf(c target)(h:KQ K w c target):=bM {} #[Pv c,Iv target] K w func129 h
def Wg(s)(h:KR K w s):=bM (z8 [7]) #[Pv s] K w func132 h
def Wh(s file)(h:KS K w s file):=bM (z8 [6,13,14] [] [] [(3,[])]) #[Pv s,Iv file] K w func133 h
def Wi(c a b g)(h:KT K w c a b g):=bM (z8 [25,42,63] [(1,[jQ 11],[5]),(4,[jQ 7],[5]),(7,[jQ 11],[6])] [] [(4,[]),(8,[(11,jZ)])]) #[Pv c,.agg #[Iv a,Iv b],Iv g] K w func140 h
def Wj(c id)(h:KU K w c id):=bM {(z8 [20,24]:dQ)with head:=λr=>(bif r==2 then 11 else 0)} #[Pv c,Iv id] K w func143 h
def Wk(s i a)(h:KV K w s i a):=bM (z8 [13,16,20]) #[Pv s,Iv i,Iv a] K w func144 h
def Wl(l id)(h:KW K w l id):=bM (z8 [] [(4,[jQ 9],[8])]) #[Pv l,Iv id] K w func145 h
def Wm(c id g)(h:KX K w c id g):=bM (z8 [21,34] [] [] [(4,[])]) #[Pv c,Iv id,Iv g] K w func149 h
def Wn(c g)(h:KY K w c g):=bM (z8 [17]) #[Pv c,Iv g] K w func150 h
def Wo(s i a b)(h:KZ K w s i a b):=bM (z8 [14,17,21]) #[Pv s,Iv i,Iv a,.int .u8 b] K w func151 h
def Wp(t id e7)(h:K0 K w t id e7):=bM {} #[Pv t,Iv id,.bool e7] K w func152 h
def Wq(s)(h:K2 K w s):=bM (z8 [4]) #[Sv s] K w func153 h
def Wr(t id n)(h:K3 K w t id n):=bM (z8 [17,20,23,31,32,39]) #[Pv t,Iv id,Iv n] K w func155 h
def Ws(c id a b d e f g i j k)(h:K4 K w c id a b d e f g i j k):=bM (z8 [9] [(2,[jQ 10],[8,9])] [] [(2,[(13,.bool)])]) #[Pv c,Iv id,.agg #[Iv a,Iv b,Iv d,Iv e,Iv f,Iv g,Iv i,.bool j,.bool k]] K w func156 h
def Wt(b c d a chain)(h:K5 K w b c d a chain):=bM {} #[.agg #[Pv b,Pv c,Pv d],Iv a,Sv chain] K w func157 h
def Wu(l id)(h:K6 K w l id):=bM {} #[Pv l,Iv id] K w func158 h
def Wv(t id place a)(h:K7 K w t id place a):=bM (z8 [19,22,25,29,33,36,44,48,72] [(9,[jQ 14],[13])]) #[Pv t,Iv id,Iv place,Iv a] K w func159 h
def Ww(t id)(h:K8 K w t id):=bM (z8 [14,20,26] [(6,[jQ 9],[8])]) #[Pv t,Iv id] K w func160 h
end Go.Mp
