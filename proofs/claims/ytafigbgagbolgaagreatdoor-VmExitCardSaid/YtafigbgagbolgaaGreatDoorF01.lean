/- A part of the proof. -/
import Derived.Test.YtafigbgagbolgaaGreatDoorF00
import Derived.RangeFuncIn
import Derived.RangeFuncLeaves
import Derived.RangeFuncRecord
import Derived.RangeFuncCalls
import Derived.RangeFuncSeq
import Derived.Sort.LoopGhostIn
import Derived.OrdersIn
import Derived.Test.YtafigbgagbolgaaGreatDoorProg
import Derived.Test.YtafigbgagbolgaaGreatDoorChecked
set_option linter.all false
set_option maxRecDepth 100000
open Go.IntKind(i64 u64)
open Go.Proofs.Tryz
namespace Go.Kw
open Go Go.Kc Go.Kt
structure En where
 k:Nat
 id:Nat
 wr:Bool
 tc:Bool
deriving DecidableEq
def En.ok(e:En):Prop:=(e.k=1\/e.k=2)/\e.id<16777216
def En.enc(e:En):Nat:=e.k+4*e.id+67108864*e.wr.toNat+134217728*e.tc.toNat
structure Rg where
 a:Int
 b:Int
 kind:Int
 file:Int
 idx:Int
 wr:Bool
deriving DecidableEq
def Rg.valid(x:Rg):Bool:=decide (0<=x.a/\x.a<x.b/\x.b<=65536)&&
 (if x.kind=1 then decide (x.file=0/\x.idx=0)else if x.kind=2 then decide (0<=x.file/\x.file<=1048576/\0<=x.idx/\x.idx<=2097152-(x.b-x.a))else false)
def fc:Int->bA Rg->Bool
 |_,[]=>true
 |at_,x::r=>x.valid&&decide (at_<=x.a)&&fc x.b r
def fN(q:Rg->Bool):bA Rg->Nat
 |[]=>0
 |x::r=>if q x then 0 else fN q r+1
def eC(l:bA Rg)(x:Rg):bA Rg×Int:=
 if fc 0 l=false\/x.valid=false\/64<=l.length then(l,1)else
 let n:=fN (λy=>decide (x.a<y.b)) l
 match l[n]? with
 |some y=>if y.a<x.b then(l,4)else(l.take n++x::l.drop n,0)
 |none=>(l.take n++x::l.drop n,0)
def prt(x:Rg)(a b:Int):Rg:={x with idx:=if x.kind=2 then x.idx+(a-x.a)else x.idx,a:=a,b:=b}
def fD(x:Rg)(a b:Int):bA Rg:=if a<b then[prt x a b]else[]
def fw(a b:Int)(x:Rg):bA Rg:=if b<=a then fD x x.a x.b else fD x x.a (min x.b a)++fD x (max x.a b) x.b
def gW(l:bA Rg)(a b:Int):bA Rg:=if fc 0 l then l.flatMap (fw a b)else[]
def Rg.has(x:Rg)(p:Int):Bool:=decide (x.a<=p/\p<x.b)
def jL(l:bA Rg)(p:Int):bW Rg:=if fc 0 l then l[fN (λx=>x.has p) l]? else none
def fg(x:Rg)(p:Int):Int×Int:=if x.kind=2 then(x.file,x.idx+p-x.a)else(-1,p)
abbrev c5:=bA (Nat×En)
def dJ:c5->Nat->bW En
 |[],_=>none
 |(q,e)::r,p=>if q=p then some e else dJ r p
def eW:c5->Nat->En->c5
 |[],p,e=>[(p,e)]
 |(q,f)::r,p,e=>if p<q then(p,e)::(q,f)::r else if p=q then(p,e)::r else(q,f)::eW r p e
def hj(a b:Int)(p:Nat):Bool:=decide (a<=p/\(p:Int)<b)
structure Sp where
 dq:bA Rg
 cI:c5
def Sp.new:Sp:=⟨[],[]⟩
def Sp.map(s:Sp)(x:Rg):Sp×Int:=({s with dq:=(eC s.dq x).1},(eC s.dq x).2)
def Sp.cD(s:Sp)(p:Int):bW Rg:=jL s.dq p
def Sp.entry(s:Sp)(p:Int):bW En:=if 0<=p then dJ s.cI p.toNat else none
def Sp.enter(s:Sp)(p id:Int)(k:Nat)(wr:Bool):Sp:=
 if(s.cD p).isSome/\0<=id/\id<16777216 then {s with cI:=eW s.cI p.toNat ⟨k,id.toNat,wr,false⟩} else s
def Sp.ids(s:Sp)(a b:Int):bR:=(s.cI.filter λq=>hj a b q.1).map λq=>(q.2.id:Int)
def Sp.cut(s:Sp)(a b:Int):Sp×bR:=(⟨gW s.dq a b,s.cI.filter λq=> !hj a b q.1⟩,s.ids a b)
def Sp.cy(s:Sp)(p:Int):Sp:=
 match s.entry p with
 |some e=> {s with cI:=eW s.cI p.toNat {e with tc:=true}}
 |none=>s
structure Vs where
 core:Cs
 procs:bA (Int×bW Sp)
structure cH where
 err:Int
 n:Int
 bI:bR
deriving DecidableEq
structure dw where
 kind:Int
 a:Int
 b:Int
 c:Int
 d:Int
deriving DecidableEq
def Vs.new(fr sl:Int)(bY:bR):Vs:=⟨Kc.new fr sl bY,[]⟩
def Vs.space(V:Vs)(pid:Int):bW Sp:=if 0<=pid then(V.procs[pid.toNat]?).bind Prod.snd else none
def Vs.group(V:Vs)(pid:Int):Int:=(V.procs.getD pid.toNat (0,none)).1
def Vs.fO(V:Vs)(pid:Int)(s:bW Sp):Vs:={V with procs:=V.procs.set pid.toNat (V.group pid,s)}
def eb(ids:bR)(S:Cs):Cs:=ids.foldl (λS id=>(S.bO id (-1)).1) S
def dP(ids:bR)(S:Cs):Cs:=ids.foldl (λS id=>(S.bO id 1).1) S
def Vs.exit(V:Vs)(pid:Int):Vs:=
 match V.space pid with
 |some s=> {V with core:=eb (s.ids 0 65536) V.core}.fO pid none
 |none=>V
structure Pr where
 g:Int
 size:Int
 live:Bool
deriving DecidableEq
def Vs.pr(V:Vs):bA Pr:=V.procs.map λp=>match p.2 with|some s=>⟨p.1,s.cI.length,true⟩|none=>⟨p.1,0,false⟩
def mW(ins:bR):Int->Int×Int->bA Pr->Int×Int
 |_,s,[]=>s
 |i,s,p::r=>mW ins (i+1) (if p.live=true/\s.2<p.size/\ins.contains p.g=true then(i,p.size)else s) r
def pick(l:bA Pr)(ins:bR):Int:=(mW ins 0 (-1,0) l).1
def wU(a:bR)(wh:bA Bool):Nat->Int
 |0=> -1
 |n+1=>let g:=a.getD n 0;if 0<=g/\wh.getD g.toNat false=true then g else wU a wh n
def kq(v:Int):bR->Nat
 |[]=>0
 |x::r=>if v=x then 0 else kq v r+1
def whole(a:bR)(t:Int)(wh:bA Bool):Int:=if kq t a<a.length then wU a wh (kq t a+1)else -1
def ih(ins:bR):Int->bA Pr->bR
 |_,[]=>[]
 |i,p::r=>if p.live=true/\ins.contains p.g=true then i::ih ins (i+1) r else ih ins (i+1) r
def mj(T:bA G)(l:bA Pr)(t:Int)(wh:bA Bool):bR:=
 let v:=pick l (ia T t)
 if v<0 then[]else
 let w:=whole (dp T (l.getD v.toNat ⟨0,0,false⟩).g) t wh
 if w<0 then[v]else ih (ia T w) 0 l
def Vs.df(V:Vs)(l:bR):Vs:=l.foldl Vs.exit V
def mX(S:Cs):bA Bool:=S.guards.map eE.whole
def fE(f:Cs->Int->Cs×Int×Int×Int)(pid:Int):Nat->Vs->cH->Vs×cH×bW Int
 |0,V,o=>(V,o,none)
 |n+1,V,o=>
  let r:=f V.core (V.group pid)
  let V1:Vs:={V with core:=r.1}
  if r.2.2.2=0 then(V1,o,some r.2.1)else
  if r.2.2.2≠12 then(V1, {o with err:=r.2.2.2},none)else
  let d:=mj V1.core.tree V1.pr r.2.2.1 (mX V1.core)
  let a:=V1.df d
  let b:cH:={o with bI:=o.bI++d}
  if d= []then(a, {b with err:=12},none)else
  if pid∈d then(a, {b with err:=13},none)else fE f pid n a b
def Vs.enter(V:Vs)(pid p id:Int)(k:Nat)(wr:Bool):Vs:=
 let V1:Vs:={V with core:=(V.core.bO id 1).1}
 match V1.space pid with
 |some s=>V1.fO pid (some (s.enter p id k wr))
 |none=>V1
def Vs.eZ(V:Vs)(f:Cs->Int->Cs×Int×Int×Int)(pid:Int)(o:cH):Vs×cH×bW Int:=fE f pid (V.procs.length+1) V o
def Vs.cd(V:Vs)(pid id:Int)(o:cH):Vs×cH×bW Int:=
 V.eZ (λS g=>let r:=S.cd id g;(r.1,id,r.2)) pid o
def Vs.there(V:Vs)(pid p:Int)(s:Sp)(x:Rg)(o:cH):Vs×cH×bW Int:=
 match s.entry p with
 |some e=>V.cd pid e.id o
 |none=>
  let r:=V.eZ (λS g=>S.cN (fg x p) g) pid o
  match r.2.2 with
  |some id=>(r.1.enter pid p id 2 x.wr,r.2)
  |none=>r
def Vs.own(V:Vs)(pid p:Int)(s:Sp)(o:cH):Vs×cH×bW Int:=
 match s.entry p with
 |some e=>
  if(V.core.bt.get e.id).1.refs<=1 then V.cd pid e.id o else
  let r:=V.eZ (λS g=>S.copy e.id g) pid o
  match r.2.2 with
  |some id=>let V1:=r.1.enter pid p id 1 true;({V1 with core:=(V1.core.bO e.id (-1)).1},r.2)
  |none=>r
 |none=>
  let r:=V.eZ (λS g=>S.fresh g) pid o
  match r.2.2 with
  |some id=>(r.1.enter pid p id 1 true,r.2)
  |none=>r
def Vs.cy(V:Vs)(pid p:Int):Vs:=
 match V.space pid with
 |some s=>V.fO pid (some (s.cy p))
 |none=>V
def cH.zero:cH:=⟨0,0,[]⟩
def cH.bad(e:Int):cH:=⟨e,0,[]⟩
def Vs.load(V:Vs)(pid:Int)(s:Sp)(b:Int):Vs×cH:=
 let p:=b/16
 match s.cD p with
 |none=>(V,.bad 14)
 |some x=>
  if b<0 then(V,.bad 14)else
  if(s.entry p).isNone/\x.kind=1 then(V,.zero)else
  let r:=V.there pid p s x .zero
  match r.2.2 with
  |none=>(r.1,r.2.1)
  |some id=>
   let g:=r.1.core.get id (b%16)
   ({r.1 with core:=g.1}.cy pid p, {r.2.1 with n:=g.2.1})
def Vs.store(V:Vs)(pid:Int)(s:Sp)(b c:Int):Vs×cH:=
 let p:=b/16
 if c<0\/255<c then(V,.bad 1)else
 match s.cD p with
 |none=>(V,.bad 14)
 |some x=>
  if b<0 then(V,.bad 14)else
  if x.wr=false then(V,.bad 15)else
  let r:=if x.kind=2 then V.there pid p s x .zero else V.own pid p s .zero
  match r.2.2 with
  |none=>(r.1,r.2.1)
  |some id=>
   let g:=r.1.core.put id (b%16) (UInt8.ofNat c.toNat)
   ({r.1 with core:=g.1}.cy pid p,r.2.1)
def kP(b c:Int):Prop:=(0<=b/\b<=65536)/\0<=c/\c<=65536
instance(b c:Int):Decidable (kP b c):=by unfold kP;exact inferInstance
def Vs.map(V:Vs)(pid:Int)(s:Sp)(x:Rg):Vs×cH:=(V.fO pid (some (s.map x).1),.bad (s.map x).2)
def Vs.call(V:Vs)(s:Sp)(o:dw):Vs×cH:=
 let pid:=o.a
 if o.kind=4 then(if V.core.live o.b then({V with procs:=V.procs.set pid.toNat (o.b,some s)},.zero)else(V,.bad 2))else
 if o.kind=5 then(if kP o.b o.c then V.map pid s ⟨o.c,o.c+o.b,1,0,0,true⟩else(V,.bad 1))else
 if o.kind=6 then(if kP o.b o.c then
  (if o.d<0\/(V.core.files.bY.length:Int)<=o.d\/np V.core.files o.d<o.b then(V,.bad 1)else V.map pid s ⟨o.c,o.c+o.b,2,o.d,0,true⟩)else(V,.bad 1))else
 if o.kind=7 then(if kP o.b o.c then
  (let r:=s.cut o.c (o.c+o.b);let V1:=V.fO pid (some r.1);({V1 with core:=eb r.2 V1.core},⟨0,r.2.length,[]⟩))else(V,.bad 1))else
 if o.kind=8 then V.load pid s o.b else
 if o.kind=9 then V.store pid s o.b o.c else
 if o.kind=10 then(if 64<=V.procs.length then(V,.bad 3)else
  ({core:=dP (s.ids 0 65536) V.core,procs:=V.procs++[(V.group pid,some s)]},⟨0,V.procs.length,[]⟩))else
 (V.exit pid,.zero)
def Vs.busy(V:Vs)(g:Int):Bool:=g !=0&&V.core.live g&&V.procs.any λp=>p.2.isSome&&p.1==g
def Vs.act(V:Vs)(o:dw):Vs×cH:=
 if o.kind=0 then(let r:=V.core.cp o.a;({V with core:=r.1},⟨r.2.2,max r.2.1 0,[]⟩))else
 if o.kind=1 then(if V.busy o.a then(V,.bad 4)else(let r:=V.core.remove o.a;({V with core:=r.1},.bad r.2)))else
 if o.kind=2 then(let r:=V.core.cC o.a o.b o.c;({V with core:=r.1},.bad r.2))else
 if o.kind=3 then(if V.core.live o.a=false then(V,.bad 2)else if 64<=V.procs.length then(V,.bad 3)else
  ({V with procs:=V.procs++[(o.a,some Sp.new)]},⟨0,V.procs.length,[]⟩))else
 if o.kind=12 then(let r:=V.core.du o.a;({V with core:=r.1},⟨0,r.2,[]⟩))else
 if o.kind=13 then(let r:=V.core.shrink o.a o.b;({V with core:=r.1},⟨0,r.2,[]⟩))else
 if o.kind<0\/13<o.kind then(V,.bad 1)else
 match V.space o.a with
 |none=>(V,.bad 2)
 |some s=>V.call s o
end Go.Kw
namespace Go.Kc
open Go.Kt
def hz(n:Nat)(f:Nat->Bool):Nat:=(List.range n).countP f
def qv(n:Nat)(f:Nat->Bool):hz (n+1) f=hz n f+(f n).toNat:=by
 unfold hz;rw[Gj,List.countP_append];cases h:f n<;>simp[Gf,h]
def AW{n:Nat}{f f':Nat->Bool}(h:∀i,i<n->f' i=f i):hz n f'=hz n f:=by
 induction n with
 |zero=>rfl
 |succ n a=>rw[qv,qv,a (λi b=>h i bu),h n bu]
def UK{n k:Nat}{f f':Nat->Bool}(hk:k<n)(h:∀i,i<n->i≠k->f' i=f i):hz n f'+(f k).toNat=hz n f+(f' k).toNat:=by
 induction n with
 |zero=>omega
 |succ n b=>
  rw[qv,qv];by_cases e:k=n
  ·subst e;rw[AW (λi a=>h i bu bu)];omega
  ·have h1:=b bu (λi a=>h i bu);have h2:=h n bu (λx=>e x.symm);rw[h2];omega
def UL{n:Nat}{f f':Nat->Bool}(h:∀i,i<n->f i=true->f' i=true):hz n f<=hz n f':=by
 induction n with
 |zero=>exact ep _
 |succ n a=>
  rw[qv,qv];have h1:=a (λi b=>h i bu);have h2:=h n bu;cases hf:f n with
  |false=>simp;omega
  |true=>rw[h2 hf];omega
def UM{n:Nat}{f:Nat->Bool}:hz n f=0↔∀i,i<n->f i=false:=by
 unfold hz;rw[Th];simp
def nT:∀ {T:bA Bool} {i:Nat} {b c:Bool},T[i]?=some b->(T.set i c).count true+b.toNat=T.count true+c.toNat
 |[],i,b,c,h=>by simp at h
 |x::T,0,b,c,h=>by
  simp only[lE,fU]at h;subst h;cases x<;>cases c<;>simp[wg]
 |x::T,i+1,b,c,h=>by
  have:=nT (T:=T) (i:=i) (b:=b) (c:=c) (by simpa using h);simp only[Tm,wg];omega
def AX{T:bA Bool}(h:(fW T).2.2=0):∃i:Nat,T[i]?=some false/\(∀j,j<i->T[j]?=some true)/\fW T=(T.set i true,(i:Int),0):=by
 unfold fW at h ⊢;cases hf:firstFree 0 T with
 |none=>rw[hf]at h;simp at h
 |some i=>
  obtain⟨_,h2,a⟩:=AL hf;exact⟨i,by simpa using h2,λj b=>by simpa using a j bu b,rfl⟩
def AY{T:bA Bool}(h:(fW T).2.2≠0):(∀b∈T,b=true)/\fW T=(T, -1,3):=by
 unfold fW at h ⊢;cases hf:firstFree 0 T with
 |none=>exact⟨Hg hf,rfl⟩
 |some i=>rw[hf]at h;simp at h
def UN{T:bA Bool}{i:Nat}(h:T[i]?=some true):nn T i=(T.set i false,0):=by
 have a:=(c4.1 h).1;unfold nn;rw[cF,dz,dT,h];simp
def jM{g:Int}:fX g=true↔0<=g/\g<64:=by unfold fX;simp
def wV{g:Int}:gS g=true↔0<=g/\g<=top:=by unfold gS;simp
def r7:∀ {l:bR},nodupB l=true↔l.Nodup
 |[]=>by simp[nodupB]
 |x::l=>by
  unfold nodupB;rw[dA,r7,rJ];simp
def mY{l:bR}{n:Int}:jh l n=true↔(∀g∈l,0<=g/\g<64)/\l.Nodup/\0<=n/\n<=top:=by
 unfold jh;rw[dA,dA,r7,wV,fS];simp only[jM,and_assoc]
def AZ(C:bA eO)(g:Int)(f:eO->eO):(iG C g f).length=C.length:=by simp[iG]
def nw(n:Int):∀(l:bR) (C:bA eO),(dF C l n).length=C.length
 |[],_=>rfl
 |g::l,C=>by
  show(dF (iG C g _) l n).length=_;rw[nw n l,AZ]
def A0{C:bA eO}{g h:Int}(f:eO->eO)(c:C.length=64)(a:fX g=true)(b:fX h=true):(iG C g f).getD h.toNat ⟨0,0⟩=if h=g then f (C.getD g.toNat ⟨0,0⟩)else C.getD h.toNat ⟨0,0⟩:=by
 rw[jM]at a b;unfold iG;simp only[dT];by_cases e:h=g
 ·subst e;rw[bL rfl,iZ bu];rfl
 ·rw[bJ e,ja bu]
def qS(n:Int):∀(l:bR) {C:bA eO} {h:Int},C.length=64->(∀g∈l,0<=g/\g<64)->l.Nodup->fX h=true->
  (dF C l n).getD h.toNat ⟨0,0⟩=if h∈l then {C.getD h.toNat ⟨0,0⟩with use:=(C.getD h.toNat ⟨0,0⟩).use+n} else C.getD h.toNat ⟨0,0⟩
 |[],_,_,_,_,_,_=>by simp[dF]
 |g::l,C,h,c,hl,hn,d=>by
  have f:fX g=true:=jM.2 (hl g (by simp));have b:=rJ.1 hn;show(dF (iG C g _) l n).getD h.toNat _=_;rw[qS n l (by rw[AZ];exact c) (λx hx=>hl x (by simp[hx])) b.2 d,A0 _ c f d];by_cases e:h=g
  ·subst e;rw[bJ b.1,bL rfl,bL (by simp)]
  ·by_cases a:h∈l;·rw[bL a,bJ e,bL (by simp[a])]
   ·rw[bJ a,bJ e,bJ (by simp[e,a])]
def pn{n:Int}{l:bR}{C:bA eO}{h:Int}(b:C.length=64)(hl:∀g∈l,0<=g/\g<64)(hn:l.Nodup):cW (dF C l n) h=cW C h+if h∈l then n else 0:=by
 unfold cW ht;cases a:fX h with
 |true=>
  simp only[gQ];rw[qS n l b hl hn a];split<;>simp
 |false=>
  have:h∉l:=λhm=>by rw[jM.2 (hl h hm)]at a;cases a
  rw[bJ this];simp
def uj{n:Int}{l:bR}{C:bA eO}{h:Int}(a:C.length=64)(hl:∀g∈l,0<=g/\g<64)(hn:l.Nodup):g8 (dF C l n) h=g8 C h:=by
 unfold g8 ht;cases b:fX h with
 |true=>
  simp only[gQ];rw[qS n l a hl hn b];split<;>simp
 |false=>simp
def r8{C:bA eO}{g:Int}(a:0<=g/\g<64):C.getD g.toNat ⟨0,0⟩=ht C g:=by
 unfold ht;rw[jM.2 a];rfl
def hv.of{C:bA eO}(h:hv C)(g:Int):(0<=(ht C g).use/\(ht C g).use<=top)/\0<=(ht C g).cC/\(ht C g).cC<=top:=by
 unfold ht;split
 ·next b=>
  rw[jM]at b;have a:g.toNat<C.length:=by rw[h.len];omega
  rw[dT,dL a];exact h.ok _ (og a)
 ·exact⟨⟨g3 _,bN⟩,g3 _,bN⟩
def hv.new:hv me:=⟨rfl,λx hx=>by
 rw[List.eq_of_mem_replicate hx];exact⟨⟨bN,bN⟩,bN,bN⟩⟩
def hv.mk'{C:bA eO}(a:C.length=64)(h:∀g:Int,0<=g->g<64->(0<=cW C g/\cW C g<=top)/\0<=g8 C g/\g8 C g<=top):hv C:=by
 refine⟨a,λx hx=>?_⟩;obtain⟨i,b,rfl⟩:=jb.1 hx;have:=h i bu bu;unfold cW g8 ht at this;rw[jM.2 ⟨bu,bu⟩]at this;simpa[b]using this
def uk{C:bA eO}{l:bR}{n:Int}(h:(dh C l n).2.2=0):jh l n=true/\dh C l n=(dF C l n, -1,0)/\∀g∈l,0<n->cW C g+n<=g8 C g:=by
 unfold dh at h ⊢;cases hr:jh l n with
 |false=>rw[hr]at h;simp at h
 |true=>
  rw[hr]at h;simp only[F6,gP]at h ⊢;cases hf:l.find? (λg=>decide (0<n)&&decide ((C.getD g.toNat ⟨0,0⟩).cC<(C.getD g.toNat ⟨0,0⟩).use+n))with
  |some g=>rw[hf]at h;simp at h
  |none=>
   refine⟨trivial,rfl,λg a c=>?_⟩;have:=pZ.1 hf g a;have b:=(mY.1 hr).1 g a;rw[r8 b]at this;simp only[dA,gE,not_and]at this;unfold cW g8;have:=this c;omega
def um{C:bA eO}{l:bR}{n:Int}(hr:jh l n=true)(h:(dh C l n).2.2≠0):∃g∈l,dh C l n=(C,g,22)/\0<n/\g8 C g<cW C g+n:=by
 unfold dh at h ⊢;rw[hr]at h ⊢;simp only[F6,gP]at h ⊢;cases hf:l.find? (λg=>decide (0<n)&&decide ((C.getD g.toNat ⟨0,0⟩).cC<(C.getD g.toNat ⟨0,0⟩).use+n))with
 |none=>rw[hf]at h;simp at h
 |some g=>
  have a:=vV hf;have hp:=Gi hf;have b:=(mY.1 hr).1 g a;rw[r8 b]at hp;simp only[dA,gE]at hp;exact⟨g,a,rfl,hp.1,hp.2⟩
def r9{C:bA eO}{l:bR}{n:Int}(hr:jh l n=true)(h:∀g∈l,n<=cW C g):gk C l n=(dF C l (-n),0):=by
 unfold gk;rw[hr];simp only[F6,gP];have:l.find? (λg=>decide ((C.getD g.toNat ⟨0,0⟩).use<n))=none:=by
  rw[pZ];intro g a;rw[r8 ((mY.1 hr).1 g a)];have:=h g a;unfold cW at this;simp;omega
 rw[this]
def Hz{C:bA eO}{l:bR}{n:Int}(hr:jh l n=true)(h:∃g∈l,cW C g<n):gk C l n=(C,2):=by
 unfold gk;rw[hr];simp only[F6,gP];obtain⟨g,a,hl⟩:=h;cases hf:l.find? (λg=>decide ((C.getD g.toNat ⟨0,0⟩).use<n))with
 |some x=>rfl
 |none=>
  have:=pZ.1 hf g a;rw[r8 ((mY.1 hr).1 g a)]at this;unfold cW at hl;simp at this;omega
def hv.try{C:bA eO}(h:hv C)(l:bR)(n:Int):hv (dh C l n).1:=by
 by_cases a:(dh C l n).2.2=0
 ·obtain⟨hr,he,hle⟩:=uk a;rw[he];obtain⟨h1,h2,c,d⟩:=mY.1 hr;refine hv.mk' (by rw[nw];exact h.len) (λg e b=>?_);rw[pn h.len h1 h2,uj h.len h1 h2];have ho:=h.of g;unfold cW g8 at*
  split
  ·next hm=>
   rcases Int.lt_or_le 0 n with hp|hp
   ·have:=hle g hm hp;omega
   ·have:n=0:=by omega
    subst this;omega
  ·omega
 ·cases hr:jh l n with
  |false=>
   have:dh C l n=(C, -1,1):=by unfold dh;rw[hr];rfl
   rw[this];exact h
  |true=>
   obtain⟨g,_,he,_⟩:=um hr a;rw[he];exact h
def hv.dv{C:bA eO}(h:hv C)(l:bR)(n:Int):hv (gk C l n).1:=by
 cases hr:jh l n with
 |false=>
  have:gk C l n=(C,1):=by unfold gk;rw[hr];rfl
  rw[this];exact h
 |true=>
  by_cases hb:∃g∈l,cW C g<n;·rw[Hz hr hb];exact h
  ·have a:∀g∈l,n<=cW C g:=λg b=>Int.not_lt.1 (λc=>hb ⟨g,b,c⟩);rw[r9 hr a];obtain⟨h1,h2,e,f⟩:=mY.1 hr;refine hv.mk' (by rw[nw];exact h.len) (λg b d=>?_);rw[pn h.len h1 h2,uj h.len h1 h2];have ho:=h.of g;unfold cW g8 at*
   split;·next hm=>have:=a g hm;omega
   ·omega
def hv.ku{C:bA eO}(h:hv C)(g n:Int):hv (j4 C g n).1:=by
 unfold j4;split
 ·next c=>
  rw[dA]at c;refine hv.mk' (by rw[AZ];exact h.len) (λx hx d=>?_);have b:fX x=true:=jM.2 ⟨hx,d⟩;unfold cW g8 ht;rw[b,bL rfl,A0 _ h.len c.1 b];have ho:=h.of x;have a:=h.of g;have e:=wV.1 c.2;unfold ht at ho a;rw[b,bL rfl]at ho;rw[c.1,bL rfl]at a;split;·exact⟨a.1,e⟩
  ·exact ho
 ·exact h
def UO{C:bA eO}(b:C.length=64)(g n x:Int):cW (j4 C g n).1 x=cW C x:=by
 unfold j4;split
 ·next a=>
  rw[dA]at a;unfold cW ht;cases hx:fX x with
  |false=>simp
  |true=>
   simp only[gQ];rw[A0 _ b a.1 hx];split;·next e=>subst e;rfl
   ·rfl
 ·rfl
end Go.Kc
namespace Go.Kc
open Go Go.Kt Go.Sp
def qT{l:bA G}(h:WF l){g:Int}(hl:dt l g=true):(∀x∈dp l g,0<=x/\x<64)/\(dp l g).Nodup/\(0:Int)∈dp l g/\g∈dp l g:=by
 obtain⟨n,rfl,x,hx,i⟩:=iR.1 hl;have a:=(c4.1 hx).1;have c:=h.e8;have e:dp l (n:Int)=(chain l n).map Int.ofNat:=by unfold dp;rw[bL hl,dz]
 rw[e];refine⟨λy d=>?_,?_,fo.2 ⟨0,Tu h n a,rfl⟩,?_⟩
 ·obtain⟨z,f,rfl⟩:=fo.1 d;have:=(z1 h n a).1 z f;show(0:Int)<=(z:Int)/\(z:Int)<64;omega
 ·rw[ob,kc];exact(ob.1 (Tt h n a)).imp (λb e=>b (Int.ofNat.inj e))
 ·obtain⟨r,hr⟩:=Gx l n;rw[hr];exact fo.2 ⟨n,by simp,rfl⟩
def uo{l:bA G}(h:WF l){g:Int}(hl:dt l g=true){n:Int}(hn:0<=n/\n<=top):jh (dp l g) n=true:=by
 have:=qT h hl;exact mY.2 ⟨this.1,this.2.1,hn⟩
structure hA(T:TS):Prop where
 next:0<=T.next
 ids:∀id p,T.pg id=some p->0<=id/\id<T.next
 spot:∀pl a id,T.c1 (pl,a)=some id↔∃p,T.pg id=some p/\p.place=pl/\p.at_=a/\pl≠0
 file:∀kf ki id,T.files (kf,ki)=some id↔∃p,T.pg id=some p/\p.kf=kf/\p.ki=ki/\0<=kf
 pl:∀id p,T.pg id=some p->(0<=p.place/\p.place<=2/\0<=p.at_/\(p.place=0->p.at_=0))/\0<=p.refs
def hA.zero:hA TS.zero:=⟨g3 _,λ_ _ h=>(by cases h),λ_ _ _=>⟨λh=>(by cases h),λ⟨_,h,_⟩=>by cases h⟩,λ_ _ _=>⟨λh=>(by cases h),λ⟨_,h,_⟩=>by cases h⟩,λ_ _ h=>by cases h⟩
variable{T:TS}
def hA.one(h:hA T){id c:Int}{p p':Pg}(h1:T.pg id=some p)(h2:T.pg c=some p')(d:p.place≠0)(e:p'.place=p.place)(f:p'.at_=p.at_):c=id:=by
 have a:=(h.spot p.place p.at_ id).2 ⟨p,h1,rfl,rfl,d⟩;have b:=(h.spot p.place p.at_ c).2 ⟨p',h2,e,f,d⟩;rw[a]at b;exact(cU b).symm
def Pg.to(p:Pg)(pl a:Int):Pg:={p with place:=pl,at_:=a}
def TS.dQ(T:TS)(id:Int)(p:Pg)(pl a:Int):TS:=
 {pg:=cL T.pg id (some (p.to pl a)),files:=T.files,c1:=if pl≠0 then cL (cL T.c1 (p.place,p.at_) none) (pl,a) (some id)else cL T.c1 (p.place,p.at_) none,next:=T.next}
def kv{κ α:Type}[DecidableEq κ](f:κ->bW α)(k:κ)(v:bW α):cL f k v k=v:=by unfold cL;rw[bL rfl]
def dc{κ α:Type}[DecidableEq κ](f:κ->bW α){k x:κ}(v:bW α)(h:x≠k):cL f k v x=f x:=by unfold cL;rw[bJ h]
def kQ{κ α:Type}[DecidableEq κ]{f:κ->bW α}{k x:κ}{v y:α}(h:cL f k (some v) x=some y):(x=k/\y=v)\/(x≠k/\f x=some y):=by
 unfold cL at h;split at h;·next e=>exact .inl ⟨e,(cU h).symm⟩
 ·next e=>exact .inr ⟨e,h⟩
def hA.put_eq(h:hA T){id:Int}{p:Pg}(hp:T.pg id=some p){pl a:Int}(j:0<=pl/\pl<=2/\0<=a/\(pl=0->a=0))(c:∀q b,T.pg b=some q->q.place=pl->q.at_=a->pl≠0->b=id):
  T.put id pl a=(T.dQ id p pl a,0):=by
 unfold TS.put;rw[hp];dsimp only;rw[cF,bJ];·rfl
 ·rintro⟨h1,h2⟩;unfold TS.at_ at h1 h2;cases d:T.c1 (pl,a)with
  |none=>rw[d]at h1;simp at h1
  |some b=>
   rw[d]at h2;obtain⟨q,i,e,f,g⟩:=(h.spot pl a b).1 d;exact h2 (c q b i e f g)
def hA.dQ(h:hA T){id:Int}{p:Pg}(hp:T.pg id=some p){pl a:Int}(o:0<=pl/\pl<=2/\0<=a/\(pl=0->a=0))(m:∀q n,T.pg n=some q->q.place=pl->q.at_=a->pl≠0->n=id):
  hA (T.dQ id p pl a):=by
 have j:∀x,(T.dQ id p pl a).pg x=if x=id then some (p.to pl a)else T.pg x:=λx=>rfl
 refine⟨h.next,λx q b=>?_,λc a' x=>?_,λkf ki x=>?_,λx q b=>?_⟩
 ·rcases kQ b with⟨rfl,rfl⟩|⟨_,b⟩
  ·exact h.ids _ _ hp
  ·exact h.ids _ _ b
 ·have r:(T.dQ id p pl a).c1 (c,a')=some x↔((pl≠0/\c=pl/\a'=a)/\x=id)\/(¬ (pl≠0/\c=pl/\a'=a)/\¬ (c=p.place/\a'=p.at_)/\T.c1 (c,a')=some x):=by
   unfold TS.dQ;dsimp only;by_cases k:pl=0
   ·rw[bJ (by simpa using k)];unfold cL;by_cases e:(c,a')=(p.place,p.at_)
    ·rw[bL e];have e':c=p.place/\a'=p.at_:=by simpa using e
     simp[k,e']
    ·rw[bJ e];have e':¬ (c=p.place/\a'=p.at_):=by simpa using e
     simp[k,e']
   ·rw[bL k];unfold cL;by_cases d:(c,a')=(pl,a)
    ·rw[bL d];have l:c=pl/\a'=a:=by simpa using d
     simp[k,l,eq_comm]
    ·rw[bJ d];have l:¬ (c=pl/\a'=a):=by simpa using d
     by_cases e:(c,a')=(p.place,p.at_)
     ·rw[bL e];have e':c=p.place/\a'=p.at_:=by simpa using e
      refine⟨λg=>(by cases g),?_⟩;rintro(⟨g,_⟩|⟨_,g,_⟩);·exact absurd g.2 l
      ·exact absurd e' g
     ·rw[bJ e];have e':¬ (c=p.place/\a'=p.at_):=by simpa using e
      have:¬ (pl≠0/\c=pl/\a'=a):=λg=>l g.2;simp[this,e']
  rw[r];constructor
  ·rintro(⟨⟨k,rfl,rfl⟩,rfl⟩|⟨h1,h2,s⟩);·exact⟨_,by rw[j,bL rfl],rfl,rfl,k⟩
   ·obtain⟨q,b,f,d,i⟩:=(h.spot _ _ _).1 s;have hx:x≠id:=by
     rintro rfl;rw[hp]at b;have:=cU b;subst this;exact h2 ⟨f.symm,d.symm⟩
    exact⟨q,by rw[j,bJ hx];exact b,f,d,i⟩
  ·rintro⟨q,b,f,d,i⟩;rw[j]at b;by_cases hx:x=id
   ·rw[bL hx]at b;have:=cU b;subst this;have f:pl=c:=f;have d:a=a':=d;exact .inl ⟨⟨by rw[f];exact i,f.symm,d.symm⟩,hx⟩
   ·rw[bJ hx]at b;refine .inr ⟨λg=>hx (m q x b (by rw[f,g.2.1]) (by rw[d,g.2.2]) g.1),λg=>hx ?_,(h.spot _ _ _).2 ⟨q,b,f,d,i⟩⟩;exact h.one hp b (by rw[<- g.1];exact i) (by rw[f,g.1]) (by rw[d,g.2])
 ·show T.files (kf,ki)=some x↔_;rw[h.file];constructor
  ·rintro⟨q,b,f,d,i⟩;by_cases hx:x=id
   ·subst hx;rw[hp]at b;have:=cU b;subst this;exact⟨p.to pl a,by rw[j,bL rfl],f,d,i⟩
   ·exact⟨q,by rw[j,bJ hx];exact b,f,d,i⟩
  ·rintro⟨q,b,f,d,i⟩;rw[j]at b;by_cases hx:x=id
   ·rw[bL hx]at b;have:=cU b;subst this;subst hx;exact⟨p,hp,f,d,i⟩
   ·rw[bJ hx]at b;exact⟨q,b,f,d,i⟩
 ·rcases kQ b with⟨rfl,rfl⟩|⟨_,b⟩
  ·exact⟨o,(h.pl _ _ hp).2⟩
  ·exact h.pl _ _ b
def hA.set(h:hA T){id:Int}{p q:Pg}(hp:T.pg id=some p)(h1:q.place=p.place)(h2:q.at_=p.at_)(d:q.kf=p.kf)(e:q.ki=p.ki)(f:0<=q.refs):hA (T.cK id q):=by
 have c:∀x,(T.cK id q).pg x=if x=id then some q else T.pg x:=λx=>rfl
 have key:∀ {x:Int} {R:Pg->Prop},(R p↔R q)->((∃r,T.pg x=some r/\R r)↔∃r,(T.cK id q).pg x=some r/\R r):=by
  intro x R b;rw[c];by_cases hx:x=id
  ·subst hx;rw[bL rfl,hp];constructor;·rintro⟨r,hr,h⟩;have:=cU hr;subst this;exact⟨q,rfl,b.1 h⟩
   ·rintro⟨r,hr,h⟩;have:=cU hr;subst this;exact⟨p,rfl,b.2 h⟩
  ·rw[bJ hx]
 refine⟨h.next,λx r hr=>?_,λpl a x=>?_,λkf ki x=>?_,λx r hr=>?_⟩
 ·rcases kQ hr with⟨rfl,rfl⟩|⟨_,hr⟩
  ·exact h.ids _ _ hp
  ·exact h.ids _ _ hr
 ·exact(h.spot pl a x).trans (key (R:=λr=>r.place=pl/\r.at_=a/\pl≠0) (by rw[h1,h2]))
 ·exact(h.file kf ki x).trans (key (R:=λr=>r.kf=kf/\r.ki=ki/\0<=kf) (by rw[d,e]))
 ·rcases kQ hr with⟨rfl,rfl⟩|⟨_,hr⟩
  ·have:=(h.pl _ _ hp).1;rw[h1,h2];exact⟨this,f⟩
  ·exact h.pl _ _ hr
def ml(T:TS)(pl:Int)(is:Pg->Bool):Nat->Bool:=λi=>match T.pg (i:Int)with
 |some p=>p.place==pl&&is p
 |none=>false
def iJ(T:TS)(pl:Int)(is:Pg->Bool):Nat:=hz T.next.toNat (ml T pl is)
def below(tree:bA G)(g:Int):Pg->Bool:=λp=>(dp tree p.owner).contains g
def pB(o:bW Pg)(pl:Int)(is:Pg->Bool):Bool:=match o with
 |some p=>p.place==pl&&is p
 |none=>false
def HA(h:hA T){T':TS}{id:Int}{p:Pg}(hp:T.pg id=some p)(hn:T'.next=T.next)(ho:∀x,x≠id->T'.pg x=T.pg x)(pl:Int)(is:Pg->Bool):
  iJ T' pl is+(pB (some p) pl is).toNat=iJ T pl is+(pB (T'.pg id) pl is).toNat:=by
 have eQ:=h.ids _ _ hp;have:=UK (n:=T.next.toNat) (k:=id.toNat) (f:=ml T pl is) (f':=ml T' pl is) bu (λi d c=>by
  unfold ml;rw[ho (i:Int) bu])
 have e:(id.toNat:Int)=id:=by omega
 have a:ml T pl is id.toNat=pB (some p) pl is:=by unfold ml pB;rw[e,hp]
 have b:ml T' pl is id.toNat=pB (T'.pg id) pl is:=by unfold ml pB;rw[e]
 rw[a,b]at this;unfold iJ;rw[hn];exact this
def uq{T':TS}{pl:Int}{is a:Pg->Bool}(hn:T'.next=T.next)(h:∀x,pB (T'.pg x) pl a=pB (T.pg x) pl is):iJ T' pl a=iJ T pl is:=by
 unfold iJ;rw[hn];exact AW (λi _=>h i)
structure ix(T:TS)(tree:bA G)(s:fa)(pl:Int):Prop where
 e8:s.bS.length<=1024
 len:s.dd.length=16*s.bS.length
 used:hv s.used
 taken:∀a:Nat,s.bS[a]?=some true↔∃id p,T.pg id=some p/\p.place=pl/\p.at_=a
 use:∀g,0<=g->g<64->cW s.used g=iJ T pl (below tree g)
 all:s.bS.count true=iJ T pl (λ_=>true)
variable{tree:bA G}{s:fa}
def UP{n:Nat}{X:bA UInt8}(h:X.length=16*n)(i:Int):(By.cl n X i).1.length=16*n:=By.AV h _
def ix.dv(v:hA T)(hw:WF tree){pl:Int}(h:ix T tree s pl)(B:pl≠0){id:Int}{p:Pg}(hp:T.pg id=some p)(h1:p.place=pl)(ho:dt tree p.owner=true){T':TS}(hn:T'.next=T.next)(i:∀x,x≠id->T'.pg x=T.pg x)(eQ:∀q,T'.pg id=some q->q.place≠pl):ix T' tree (s.dv p.at_ (dp tree p.owner)) pl:=by
 obtain⟨G,F⟩:=v.pl _ _ hp;obtain⟨a,w⟩:∃a:Nat,p.at_=a:=⟨p.at_.toNat,bu⟩
 have o:s.bS[a]?=some true:=(h.taken a).2 ⟨id,p,hp,h1,w⟩;have y:=qT hw ho;have A:∀is:Pg->Bool,pB (T'.pg id) pl is=false:=by
  intro is;cases d:T'.pg id with
  |none=>rfl
  |some q=>unfold pB;simp[eQ q d]
 have k:∀is:Pg->Bool,iJ T' pl is+(is p).toNat=iJ T pl is:=by
  intro is;have:=HA v hp hn i pl is;rw[A is]at this;simpa[pB,h1]using this
 have u:gk s.used (dp tree p.owner) 1=(dF s.used (dp tree p.owner) (-1),0):=by
  refine r9 (uo hw ho ⟨bN,bN⟩) (λg r=>?_);have l:=y.1 g r;rw[h.use g l.1 l.2];have:=k (below tree g);have hb:below tree g p=true:=kX.2 r;rw[hb]at this;simp at this;omega
 have t:nn s.bS p.at_=(s.bS.set a false,0):=by rw[w];exact UN o
 have m:=hv.dv h.used (dp tree p.owner) 1;rw[u]at m;unfold fa.dv;rw[u,t];refine⟨by simpa using h.e8,?_,m,λb=>?_,λg r l=>?_,?_⟩
 ·show(By.cl s.bS.length s.dd p.at_).1.length=16*(s.bS.set a false).length;rw[dM];exact UP h.len _
 ·show(s.bS.set a false)[b]?=some true↔_;have z:=(c4.1 o).1;by_cases e:a=b
  ·subst e;rw[iZ z];refine⟨λE=>(by cases E),?_⟩;rintro⟨f,q,d,j,n⟩;by_cases hx:f=id;·subst hx;exact absurd j (eQ q d)
   ·rw[i _ hx]at d;exact absurd (v.one hp d (by rw[h1];exact B) (by rw[j,h1]) (by rw[n,w])) hx
  ·rw[ja e,h.taken b];constructor
   ·rintro⟨f,q,d,j,n⟩;have hx:f≠id:=by
     rintro rfl;rw[hp]at d;have:=cU d;subst this;omega
    exact⟨f,q,by rw[i _ hx];exact d,j,n⟩
   ·rintro⟨f,q,d,j,n⟩;by_cases hx:f=id;·subst hx;exact absurd j (eQ q d)
    ·rw[i _ hx]at d;exact⟨f,q,d,j,n⟩
 ·show cW (dF s.used (dp tree p.owner) (-1)) g=_;rw[pn h.used.len y.1 y.2.1,h.use g r l];have:=k (below tree g);by_cases hm:g∈dp tree p.owner
  ·have hb:below tree g p=true:=kX.2 hm;rw[hb]at this;rw[bL hm];simp at this;omega
  ·have hb:below tree g p=false:=by unfold below;simpa using hm
   rw[hb]at this;rw[bJ hm];simp at this;omega
 ·show(s.bS.set a false).count true=_;have C:=nT (c:=false) o;have D:=k (λ_=>true);have H:=h.all;simp at C D;omega
def ix.po(z:hA T)(hw:WF tree){pl:Int}(h:ix T tree s pl){id:Int}{p q:Pg}(hp:T.pg id=some p)(h1:p.place≠pl){T':TS}(hn:T'.next=T.next)(f:∀x,x≠id->T'.pg x=T.pg x)(eQ:T'.pg id=some q)(v:q.place=pl)(ho:dt tree q.owner=true){a:Nat}(w:q.at_=a)(o:s.bS[a]?=some false)(n:∀g∈dp tree q.owner,cW s.used g+1<=g8 s.used g){X:bA UInt8}(A:X.length=16*s.bS.length):ix T' tree ⟨s.bS.set a true,X,dF s.used (dp tree q.owner) 1⟩ pl:=by
 have i:=qT hw ho;have j:∀is:Pg->Bool,iJ T' pl is=iJ T pl is+(is q).toNat:=by
  intro is;have:=HA z hp hn f pl is;rw[eQ]at this;have hb:(p.place==pl)=false:=by simpa using h1
  simpa[pB,hb,v]using this
 have t:=(c4.1 o).1;refine⟨by simpa using h.e8,by simpa using A,?_,λb=>?_,λg u l=>?_,?_⟩
 ·refine hv.mk' (by rw[nw];exact h.used.len) (λg u l=>?_);rw[pn h.used.len i.1 i.2.1,uj h.used.len i.1 i.2.1];have ho:=h.used.of g;unfold cW g8 at*
  split;·next hm=>have:=n g hm;omega
  ·omega
 ·show(s.bS.set a true)[b]?=some true↔_;by_cases e:a=b
  ·subst e;rw[iZ t];exact⟨λ_=>⟨id,q,eQ,v,w⟩,λ_=>rfl⟩
  ·rw[ja e,h.taken b];constructor
   ·rintro⟨d,r,hr,k,m⟩;have hx:d≠id:=by
     rintro rfl;rw[hp]at hr;have:=cU hr;subst this;exact h1 k
    exact⟨d,r,by rw[f _ hx];exact hr,k,m⟩
   ·rintro⟨d,r,hr,k,m⟩;by_cases hx:d=id
    ·subst hx;rw[eQ]at hr;have:=cU hr;subst this;omega
    ·rw[f _ hx]at hr;exact⟨d,r,hr,k,m⟩
 ·show cW (dF s.used (dp tree q.owner) 1) g=_;rw[pn h.used.len i.1 i.2.1,h.use g u l,j];by_cases hm:g∈dp tree q.owner
  ·have hb:below tree g q=true:=kX.2 hm;rw[hb,bL hm];simp
  ·have hb:below tree g q=false:=by unfold below;simpa using hm
   rw[hb,bJ hm];simp
 ·show(s.bS.set a true).count true=_;have y:=nT (c:=true) o;have B:=h.all;rw[j];simp at y ⊢;omega
def ix.other{pl:Int}(h:ix T tree s pl){T':TS}(hn:T'.next=T.next)(n:∀x,(T'.pg x=T.pg x)\/((∀p,T.pg x=some p->p.place≠pl)/\∀p,T'.pg x=some p->p.place≠pl)
   \/(∃p q,T.pg x=some p/\T'.pg x=some q/\q.place=p.place/\q.at_=p.at_/\q.owner=p.owner)):ix T' tree s pl:=by
 have key:∀(x:Int) (is:Pg->Bool),(∀p q:Pg,p.owner=q.owner->is p=is q)->pB (T'.pg x) pl is=pB (T.pg x) pl is:=by
  intro x is m;rcases n x with e|⟨h1,h2⟩|⟨p,q,h1,h2,c,i,k⟩
  ·rw[e]
  ·have a:pB (T.pg x) pl is=false:=by
    cases j:T.pg x with
    |none=>rfl
    |some p=>unfold pB;simp[h1 p j]
   have b:pB (T'.pg x) pl is=false:=by
    cases j:T'.pg x with
    |none=>rfl
    |some p=>unfold pB;simp[h2 p j]
   rw[a,b]
  ·rw[h1,h2];unfold pB;dsimp only;rw[c,m q p k]
 have o:∀(x a:Int),(∃p,T'.pg x=some p/\p.place=pl/\p.at_=a)↔∃p,T.pg x=some p/\p.place=pl/\p.at_=a:=by
  intro x a;rcases n x with e|⟨h1,h2⟩|⟨p,q,h1,h2,c,i,k⟩
  ·rw[e]
  ·exact⟨λ⟨p,hp,e,_⟩=>absurd e (h2 p hp),λ⟨p,hp,e,_⟩=>absurd e (h1 p hp)⟩
  ·rw[h1,h2];constructor;·rintro⟨r,hr,d,f⟩;have:=cU hr;subst this;exact⟨p,rfl,by rw[<- c,d],by rw[<- i,f]⟩
   ·rintro⟨r,hr,d,f⟩;have:=cU hr;subst this;exact⟨q,rfl,by rw[c,d],by rw[i,f]⟩
 refine⟨h.e8,h.len,h.used,λa=>?_,λg t l=>?_,?_⟩
 ·rw[h.taken a];exact⟨λ⟨x,hx⟩=>⟨x,(o x a).2 hx⟩,λ⟨x,hx⟩=>⟨x,(o x a).1 hx⟩⟩
 ·rw[h.use g t l,uq hn (λx=>key x _ (λp q e=>by unfold below;rw[e]))]
 ·rw[h.all,uq hn (λx=>key x _ (λ_ _ _=>rfl))]
end Go.Kc
namespace Go.Kc
open Go Go.Kt Go.Sp
structure Inv0(S:Cs):Prop where
 wf:WF S.tree
 gl:S.guards.length=S.tree.length
 cI:hA S.bt
 own:∀id p,S.bt.pg id=some p->S.live p.owner=true
 fr:ix S.bt S.tree S.fr 1
 sl:ix S.bt S.tree S.sl 2
 eu:Good S.bX
 gen:∀id g,(∃e∈S.bX,e.id=id/\e.group=g)↔∃p,S.bt.pg id=some p/\p.place=1/\p.owner=g
 log:S.log.length=64
 kx:∀id p,S.bt.pg id=some p->0<=p.kf->ej S.files (p.kf,p.ki)=true/\p.place≠2
 q0:∀k t,S.files.bt k=some t->t.length=16
 ids:S.bt.next<=16777216
structure Inv(S:Cs):Prop extends Inv0 S where
 anon:∀id p,S.bt.pg id=some p->p.kf<0->p.place≠0
variable{R:bA dy}
def HB(G:Good R){id x g:Int}:(∃e∈(jj R id).1,e.id=x/\e.group=g)↔x≠id/\∃e∈R,e.id=x/\e.group=g:=by
 unfold jj;split
 ·constructor
  ·rintro⟨e,he,rfl,rfl⟩;rw[gq]at he;exact⟨by simpa using he.2,e,he.1,rfl,rfl⟩
  ·rintro⟨hx,e,he,rfl,rfl⟩;exact⟨e,gq.2 ⟨he,by simpa using hx⟩,rfl,rfl⟩
 ·next hf=>
  have hf:ff R id=none:=by simpa using hf
  have hn:=(r5 G.cZ).1 hf;constructor;·rintro⟨e,he,rfl,rfl⟩;exact⟨hn e he,e,he,rfl,rfl⟩
  ·rintro⟨_,h⟩;exact h
def UQ{id:Int}(h:(ff R id).isSome=true):(jj R id).1.length<R.length:=by
 unfold jj;rw[bL h];obtain⟨e,he⟩:=kJ.1 h;have hm:e∈R:=vV he;have hp:e.id=id:=by simpa using Gi he
 rcases hN (R.filter λe=>e.id !=id).length R.length with h1|h1;·exact h1
 ·exfalso;have h2:(R.filter λe=>e.id !=id).length=R.length:=Nat.le_antisymm (l0 _ _) h1;have a:=List.length_filter_eq_length_iff.1 h2 e hm;simp[hp]at a
def UR{id x g:Int}:(∃e∈(kp R id).1,e.id=x/\e.group=g)↔∃e∈R,e.id=x/\e.group=g:=by
 unfold kp;split
 ·constructor
  ·rintro⟨e,he,rfl,rfl⟩;obtain⟨y,a,rfl⟩:=fo.1 he;refine⟨y,a,?_,?_⟩<;>split<;>rfl
  ·rintro⟨y,a,rfl,rfl⟩;refine⟨_,fo.2 ⟨y,a,rfl⟩,?_,?_⟩<;>split<;>rfl
 ·exact l5
def US(G:Good R){id g:Int}{dY:Bool}(hb:¬ ie id g)(hf:ff R id=none){x o:Int}:(∃e∈(jI R id g dY).1,e.id=x/\e.group=o)↔(x=id/\o=g)\/∃e∈R,e.id=x/\e.group=o:=by
 unfold jI;rw[bJ hb,hf];simp only[Tl,l2,gP];have hm:=λy=>wT (R:=R) (x:=⟨id,g,if dY then 1 else 0⟩) (y:=y) ((r5 G.cZ).1 hf);constructor
 ·rintro⟨e,he,rfl,rfl⟩;rcases(hm e).1 he with rfl|he;·exact .inl ⟨rfl,rfl⟩
  ·exact .inr ⟨e,he,rfl,rfl⟩
 ·rintro(⟨rfl,rfl⟩|⟨e,he,rfl,rfl⟩);·exact⟨_,(hm _).2 (.inl rfl),rfl,rfl⟩
  ·exact⟨e,(hm _).2 (.inr he),rfl,rfl⟩
def UT(G:Good R){id:Int}:(ff R id).isSome=true↔∃e∈R,e.id=id:=by
 constructor
 ·intro h;obtain⟨e,he⟩:=kJ.1 h;have:=(kO G.cZ).1 he;exact⟨e,this.1,this.2⟩
 ·rintro⟨e,he,eQ⟩;rw[(kO G.cZ).2 ⟨he,eQ⟩];rfl
def UU{g:Int}{c:Int->Int->Int×Int}(f:∀a b,(c a b).1=a){x o:Int}:(∃e∈(iw R g c).1,e.id=x/\e.group=o)↔∃e∈R,e.id=x/\e.group=o:=by
 have h:∀e:dy,(jJ g c e).group=e.group:=λe=>by unfold jJ;split<;>simp[f]
 constructor
 ·rintro⟨e,he,rfl,rfl⟩;obtain⟨y,d,rfl⟩:=fo.1 he;exact⟨y,d,(r6 g c y).symm,(h y).symm⟩
 ·rintro⟨y,d,rfl,rfl⟩;exact⟨_,fo.2 ⟨y,d,rfl⟩,r6 g c y,h y⟩
def UW{g:Int}{a:Int->Int->Int×Int}:(iw R g a).1.length=R.length:=by unfold iw;simp
variable{S:Cs}
def Inv.new(cx cT:Int)(bY:bR):Inv (new cx cT bY):=by
 have b:∀n pl,ix TS.zero Kt.new (gy n) pl:=by
  intro n pl;have c:∀is:Pg->Bool,iJ TS.zero pl is=0:=λis=>rfl;refine⟨by show(List.replicate _ false).length<=1024;simp;omega,by show(List.replicate _ (0:UInt8)).length=16*(List.replicate _ false).length;simp,hv.new,λa=>?_,λg d h1=>?_,?_⟩
  ·constructor
   ·intro h;have h:(List.replicate (min (max n 0).toNat 1024) false)[a]?=some true:=h;rw[od]at h;split at h<;>simp at h
   ·rintro⟨_,_,h,_⟩;cases h
  ·rw[c];show cW (List.replicate 64 ⟨0,top⟩) g=0;unfold cW ht;split;·rw[dT,od,eJ];rfl
   ·rfl
  ·rw[c];show(List.replicate (min (max n 0).toNat 1024) false).count true=0;rw[List.count_replicate];rfl
 exact⟨⟨Tv,rfl,hA.zero,λ_ _ h=>(by cases h),b _ _,b _ _,Good.nil,λid g=>⟨λ⟨_,h,_⟩=>(by cases h),λ⟨_,h,_⟩=>by cases h⟩,lF,λ_ _ h=>(by cases h),λ_ _ h=>(by cases h),(by show(0:Int)<=16777216;decide)⟩,λ_ _ h=>by cases h⟩
def Inv.pq(h:Inv S){R:bA dy}(a:Good R)(hm:∀x o,(∃e∈R,e.id=x/\e.group=o)↔∃e∈S.bX,e.id=x/\e.group=o):Inv {S with bX:=R} :=
 {h with eu:=a,gen:=λid g=>(hm id g).trans (h.gen id g)}
def Inv.file(h:Inv S){k:Int×Int}{t:bA UInt8}:Inv {S with files:=(nr S.files k t).1} :=by
 unfold nr;split;·exact h
 ·split;·exact h
  ·next a=>
   have a:t.length=16:=by simpa using a
   refine {h with kx:=λid p hp=>?_,q0:=λx u hu=>?_};·exact h.kx id p hp
   ·have hu:(if x=k then some t else S.files.bt x)=some u:=hu;split at hu;·rw[<- cU hu];exact a
    ·exact h.q0 x u hu
def Inv.cK(h:Inv S){id:Int}{p q:Pg}(hp:S.bt.pg id=some p)(h1:q.place=p.place)(h2:q.at_=p.at_)(c:q.kf=p.kf)(d:q.ki=p.ki)(i:0<=q.refs)(b:q.owner=p.owner):Inv {S with bt:=S.bt.cK id q} :=by
 have j:∀x,((S.bt.cK id q).pg x=S.bt.pg x)\/((∀p,S.bt.pg x=some p->p.place≠1)/\∀p,(S.bt.cK id q).pg x=some p->p.place≠1)\/(∃p a,S.bt.pg x=some p/\(S.bt.cK id q).pg x=some a/\a.place=p.place/\a.at_=p.at_/\a.owner=p.owner):=by
  intro x;by_cases hx:x=id;·subst hx;exact .inr (.inr ⟨p,q,hp,kv _ _ _,h1,h2,b⟩)
  ·exact .inl (dc _ _ hx)
 have f:∀x,((S.bt.cK id q).pg x=S.bt.pg x)\/((∀p,S.bt.pg x=some p->p.place≠2)/\∀p,(S.bt.cK id q).pg x=some p->p.place≠2)\/(∃p a,S.bt.pg x=some p/\(S.bt.cK id q).pg x=some a/\a.place=p.place/\a.at_=p.at_/\a.owner=p.owner):=by
  intro x;by_cases hx:x=id;·subst hx;exact .inr (.inr ⟨p,q,hp,kv _ _ _,h1,h2,b⟩)
  ·exact .inl (dc _ _ hx)
 refine {h with cI:=h.cI.set hp h1 h2 c d i,own:=λx r hr=>?_,fr:=h.fr.other rfl j,sl:=h.sl.other rfl f,gen:=λx g=>?_,kx:=λx r hr=>?_,anon:=λx r hr=>?_}
 ·rcases kQ hr with⟨rfl,rfl⟩|⟨_,hr⟩
  ·show S.live r.owner=true;rw[b];exact h.own _ _ hp
  ·exact h.own _ _ hr
 ·show(∃e∈S.bX,e.id=x/\e.group=g)↔∃r,cL S.bt.pg id (some q) x=some r/\r.place=1/\r.owner=g;rw[h.gen];by_cases hx:x=id
  ·subst hx;rw[kv,hp];constructor;·rintro⟨r,hr,e⟩;have:=cU hr;subst this;exact⟨q,rfl,by rw[h1,b];exact e⟩
   ·rintro⟨r,hr,e⟩;have:=cU hr;subst this;exact⟨p,rfl,by rw[<- h1,<- b];exact e⟩
  ·rw[dc _ _ hx]
 ·rcases kQ hr with⟨rfl,rfl⟩|⟨_,hr⟩
  ·rw[h1,c,d];exact h.kx _ _ hp
  ·exact h.kx _ _ hr
 ·rcases kQ hr with⟨rfl,rfl⟩|⟨_,hr⟩
  ·rw[h1,c];exact h.anon _ _ hp
  ·exact h.anon _ _ hr
def Inv.mark(h:Inv S)(id:Int)(d:Bool):Inv {S with bt:=(S.bt.mark id d).1} :=by
 unfold TS.mark;cases hp:S.bt.pg id with
 |none=>exact h
 |some p=>exact h.cK hp rfl rfl rfl rfl (h.cI.pl _ _ hp).2 rfl
def Inv.clean(h:Inv S)(id:Int)(p:Pg):Inv (S.clean id p):=by
 unfold Cs.clean;split;·exact(h.file (k:=(p.kf,p.ki)) (t:=S.text p)).mark id false
 ·exact h
def Inv.cy(h:Inv S)(id:Int):Inv {S with bX:=(kp S.bX id).1} :=h.pq (h.eu.cy id) (λ_ _=>UR)
def wW:∀(l:bR) {R:bA dy},Good R->Good (gV R l).1/\(∀x o,(∃e∈(gV R l).1,e.id=x/\e.group=o)↔∃e∈R,e.id=x/\e.group=o)/\(gV R l).1.length=R.length
 |[],_,h=>⟨h,λ_ _=>l5,rfl⟩
 |g::l,R,h=>by
  have h1:=wW l (h.du g);refine⟨h1.1,λx o=>(h1.2.1 x o).trans (UU (λa b=>rfl)),?_⟩;show(gV (iw R g jK).1 l).1.length=_;rw[h1.2.2,UW]
def Inv.du(h:Inv S)(t:Int):Inv (S.du t).1:=by
 have:=wW (ia S.tree t) h.eu;exact h.pq this.1 this.2.1
def Inv0.bK(_:Inv0 S){id:Int}{p:Pg}(hp:S.bt.pg id=some p):S.bt.get id=(p,0):=by unfold TS.get;rw[hp]
def HC(l:bR)(g:Int):(dK l g).1.length=l.length:=by unfold dK;split<;>simp
def jy(T:TS)(id:Int)(p:Pg)(pl a x:Int):(T.dQ id p pl a).pg x=if x=id then some (p.to pl a)else T.pg x:=rfl
def Inv0.nx(h:Inv0 S){id:Int}{p:Pg}(hp:S.bt.pg id=some p):S.bt.put id 0 0=(S.bt.dQ id p 0 0,0):=
 h.cI.put_eq hp ⟨bN,bN,bN,λ_=>rfl⟩ (λ_ _ _ _ _ h=>absurd rfl h)
def Inv0.lK(h:Inv0 S){id:Int}{p:Pg}(hp:S.bt.pg id=some p)(h1:p.place=1){lg:bR}(j:lg.length=64){K:Int->bW Int}:
  Inv0 {S with bt:=S.bt.dQ id p 0 0,fr:=S.fr.dv p.at_ (dp S.tree p.owner),bX:=(jj S.bX id).1,log:=lg,kept:=K} :=by
 have k:∀q f,S.bt.pg f=some q->q.place=0->q.at_=0->(0:Int)≠0->f=id:=λ_ _ _ _ _ h=>absurd rfl h;have l:=h.cI.dQ hp (pl:=0) (a:=0) ⟨bN,bN,bN,λ_=>rfl⟩ k;have d:∀x,x≠id->(S.bt.dQ id p 0 0).pg x=S.bt.pg x:=λx hx=>dc _ _ hx;refine⟨h.wf,h.gl,l,λx r hr=>?_,h.fr.dv h.cI h.wf bN hp h1 (h.own _ _ hp) rfl d (λq b=>?_),h.sl.other rfl (λx=>?_),h.eu.drop id,λx g=>?_,j,λx r hr=>?_,h.q0,h.ids⟩
 ·rcases kQ hr with⟨rfl,rfl⟩|⟨_,hr⟩
  ·show S.live p.owner=true;exact h.own _ _ hp
  ·exact h.own _ _ hr
 ·rw[jy,bL rfl]at b;rw[<- cU b];show(0:Int)≠1;decide
 ·by_cases hx:x=id
  ·subst hx;refine .inr (.inl ⟨λq b=>?_,λq b=>?_⟩);·rw[hp]at b;rw[<- cU b,h1];decide
   ·rw[jy,bL rfl]at b;rw[<- cU b];show(0:Int)≠2;decide
  ·exact .inl (d x hx)
 ·show(∃e∈(jj S.bX id).1,e.id=x/\e.group=g)↔∃r,(S.bt.dQ id p 0 0).pg x=some r/\r.place=1/\r.owner=g;rw[HB h.eu,h.gen,jy];by_cases hx:x=id
  ·rw[bL hx];refine⟨λc=>absurd hx c.1,?_⟩;rintro⟨r,hr,e,_⟩;rw[<- cU hr]at e;have e:(0:Int)=1:=e;omega
  ·rw[bJ hx];exact⟨λc=>c.2,λc=>⟨hx,c⟩⟩
 ·rcases kQ hr with⟨rfl,rfl⟩|⟨_,hr⟩
  ·exact λi=>⟨(h.kx _ _ hp i).1,by show(0:Int)≠2;decide⟩
  ·exact h.kx _ _ hr
def Inv0.q1(h:Inv0 S){id:Int}{p:Pg}(hp:S.bt.pg id=some p)(h1:p.place=2):
  Inv0 {S with bt:=S.bt.dQ id p 0 0,sl:=S.sl.dv p.at_ (dp S.tree p.owner)} :=by
 have i:∀q d,S.bt.pg d=some q->q.place=0->q.at_=0->(0:Int)≠0->d=id:=λ_ _ _ _ _ h=>absurd rfl h;have j:=h.cI.dQ hp (pl:=0) (a:=0) ⟨bN,bN,bN,λ_=>rfl⟩ i;have c:∀x,x≠id->(S.bt.dQ id p 0 0).pg x=S.bt.pg x:=λx hx=>dc _ _ hx;refine⟨h.wf,h.gl,j,λx r hr=>?_,h.fr.other rfl (λx=>?_),h.sl.dv h.cI h.wf bN hp h1 (h.own _ _ hp) rfl c (λq b=>?_),h.eu,λx g=>?_,h.log,λx r hr=>?_,h.q0,h.ids⟩
 ·rcases kQ hr with⟨rfl,rfl⟩|⟨_,hr⟩
  ·show S.live p.owner=true;exact h.own _ _ hp
  ·exact h.own _ _ hr
 ·by_cases hx:x=id
  ·subst hx;refine .inr (.inl ⟨λq b=>?_,λq b=>?_⟩);·rw[hp]at b;rw[<- cU b,h1];decide
   ·rw[jy,bL rfl]at b;rw[<- cU b];show(0:Int)≠1;decide
  ·exact .inl (c x hx)
 ·rw[jy,bL rfl]at b;rw[<- cU b];show(0:Int)≠2;decide
 ·show(∃e∈S.bX,e.id=x/\e.group=g)↔∃r,(S.bt.dQ id p 0 0).pg x=some r/\r.place=1/\r.owner=g;rw[h.gen,jy];by_cases hx:x=id
  ·subst hx;rw[bL rfl,hp];constructor
   ·rintro⟨r,hr,e,_⟩;rw[<- cU hr,h1]at e;cases e
   ·rintro⟨r,hr,e,_⟩;rw[<- cU hr]at e;have e:(0:Int)=1:=e;omega
  ·rw[bJ hx]
 ·rcases kQ hr with⟨rfl,rfl⟩|⟨_,hr⟩
  ·exact λf=>⟨(h.kx _ _ hp f).1,by show(0:Int)≠2;decide⟩
  ·exact h.kx _ _ hr
def Inv.q3(h:Inv S){id:Int}{p:Pg}(hp:S.bt.pg id=some p)(h1:p.place=1)(hk:0<=p.kf):Inv ({S with bt:=(S.bt.put id 0 0).1}.leave id p (S.chain p.owner)):=by
 rw[h.nx hp];refine⟨h.lK hp h1 (by rw[HC];exact h.log),λx r hr a=>?_⟩;rcases kQ hr with⟨rfl,rfl⟩|⟨_,hr⟩
 ·exact absurd hk (by have:p.kf<0:=a;omega)
 ·exact h.anon _ _ hr a
def Inv.ft(h:Inv S){id:Int}{p:Pg}(hp:S.bt.pg id=some p)(h1:p.place=1)(hk:p.kf<0)(hw:(S.ft id p (S.chain p.owner)).2=true):Inv ((S.ft id p (S.chain p.owner)).1.leave id p (S.chain p.owner)):=by
 unfold Cs.ft at hw ⊢;split at hw;·cases hw
 next f=>
 rw[bJ f];dsimp only at hw ⊢;split at hw;·cases hw
 next hf=>
 rw[bJ hf];dsimp only;have hf:(fW S.sl.bS).2.2=0:=by simpa using hf
 obtain⟨a,m,_,he⟩:=AX hf;rw[he];dsimp only;have z:=(c4.1 m).1;have c:=h.own _ _ hp;have B:=qT h.wf c;have i:∀g∈dp S.tree p.owner,cW S.sl.used g+1<=g8 S.sl.used g:=by
  intro g n;have:=(not_exists.1 (λb=>f (tC.2 b))) g;simp only[gE,not_and,Int.not_le]at this;have:=this n;omega
 have o:dh S.sl.used (S.chain p.owner) 1=(dF S.sl.used (dp S.tree p.owner) 1, -1,0):=by
  by_cases s:(dh S.sl.used (S.chain p.owner) 1).2.2=0;·exact(uk s).2.1
  ·obtain⟨g,n,_,_,A⟩:=um (uo h.wf c ⟨bN,bN⟩) s;have:=i g n;omega
 rw[o];have l:∀q d,S.bt.pg d=some q->q.place=2->q.at_=(a:Int)->(2:Int)≠0->d=id:=by
  intro q d k u v _;have:=(h.sl.taken a).2 ⟨d,q,k,u,v⟩;rw[m]at this;cases this
 rw[h.cI.put_eq hp ⟨bN,bN,bu,λb=>absurd b bN⟩ l];have w:=h.cI.dQ hp (pl:=2) (a:=a) ⟨bN,bN,bu,λb=>absurd b bN⟩ l;have j:∀x,x≠id->(S.bt.dQ id p 2 a).pg x=S.bt.pg x:=λx hx=>dc _ _ hx;have y:(By.wr (S.sl.bS.set a true).length S.sl.dd a (S.text p)).1.length=16*S.sl.bS.length:=by
  rw[dM];exact By.AV h.sl.len _
 unfold Cs.leave;dsimp only;refine⟨⟨h.wf,h.gl,w,λx r hr=>?_,h.fr.dv h.cI h.wf bN hp h1 (h.own _ _ hp) rfl j (λq k=>?_),?_,h.eu.drop id,λx g=>?_,?_,λx r hr=>?_,h.q0,h.ids⟩,λx r hr=>?_⟩
 ·rcases kQ hr with⟨rfl,rfl⟩|⟨_,hr⟩
  ·show S.live p.owner=true;exact h.own _ _ hp
  ·exact h.own _ _ hr
 ·rw[jy,bL rfl]at k;rw[<- cU k];show(2:Int)≠1;decide
 ·exact h.sl.po (T':=S.bt.dQ id p 2 a) h.cI h.wf hp (by rw[h1];decide) rfl j (q:=p.to 2 a) (by rw[jy,bL rfl]) rfl c rfl m i y
 ·show(∃e∈(jj S.bX id).1,e.id=x/\e.group=g)↔∃r,(S.bt.dQ id p 2 a).pg x=some r/\r.place=1/\r.owner=g;rw[HB h.eu,h.gen,jy];by_cases hx:x=id
  ·rw[bL hx];refine⟨λb=>absurd hx b.1,?_⟩;rintro⟨r,hr,e,_⟩;rw[<- cU hr]at e;have e:(2:Int)=1:=e;omega
  ·rw[bJ hx];exact⟨λb=>b.2,λb=>⟨hx,b⟩⟩
 ·show(dK S.log p.owner).1.length=64;rw[HC];exact h.log
 ·rcases kQ hr with⟨rfl,rfl⟩|⟨_,hr⟩
  ·exact λt=>absurd hk (by have:0<=p.kf:=t;omega)
  ·exact h.kx _ _ hr
 ·rcases kQ hr with⟨rfl,rfl⟩|⟨_,hr⟩
  ·exact λ_=>by show(2:Int)≠0;decide
  ·exact h.anon _ _ hr
def sa{id:Int}(ho:(S.out id).2=false):(S.out id).1=S:=by
 unfold Cs.out at ho ⊢;dsimp only at ho ⊢;split at ho;·cases ho
 ·next a=>
  rw[bJ a];split at ho;·cases ho
  ·next h2=>rw[bJ h2]
def A1(id:Int)(p q:Pg)(b:S.bt.pg id=some q):∃a,(S.clean id p).bt.pg id=some a/\a.place=q.place/\a.at_=q.at_/\a.kf=q.kf/\a.ki=q.ki/\a.owner=q.owner/\a.refs=q.refs:=by
 unfold Cs.clean;split
 ·show ∃a,(S.bt.mark id false).1.pg id=some a/\_;unfold TS.mark;rw[b];exact⟨_,kv _ _ _,rfl,rfl,rfl,rfl,rfl,rfl⟩
 ·exact⟨q,b,rfl,rfl,rfl,rfl,rfl,rfl⟩
def wX(id:Int)(p:Pg):(S.clean id p).tree=S.tree/\(S.clean id p).fr=S.fr/\(S.clean id p).sl=S.sl/\(S.clean id p).bX=S.bX/\(S.clean id p).log=S.log/\(S.clean id p).kept=S.kept/\(S.clean id p).guards=S.guards:=by
 unfold Cs.clean;split<;>exact⟨rfl,rfl,rfl,rfl,rfl,rfl,rfl⟩
def Inv.out(h:Inv S){id:Int}{p:Pg}(hp:S.bt.pg id=some p)(h1:p.place=1):Inv (S.out id).1:=by
 cases ho:(S.out id).2 with
 |false=>rw[sa ho];exact h
 |true=>
  unfold Cs.out at ho ⊢;rw[h.bK hp]at ho ⊢;dsimp only at ho ⊢;by_cases hk:0<=p.kf
  ·rw[bL hk];dsimp only;have a:=h.clean id p;obtain⟨q,g,c,d,e,o,f,r⟩:=A1 id p p hp;obtain⟨b,i,j,k,l,m,n⟩:=wX (S:=S) id p;have:=a.q3 g (by rw[c,h1]) (by rw[e];exact hk);have el:∀S':Cs,S'.leave id q ((S.clean id p).chain q.owner)=S'.leave id p (S.chain p.owner):=by
    intro S';unfold Cs.leave Cs.chain;rw[d,f,b]
   rw[el]at this;exact this
  ·rw[bJ hk]at ho ⊢;split at ho;·next hw=>rw[bL hw];exact h.ft hp h1 bu hw
   ·cases ho
def UX{id:Int}(ho:(S.out id).2=true):(S.out id).1.bX=(jj S.bX id).1:=by
 unfold Cs.out at ho ⊢;dsimp only at ho ⊢;split
 ·show(jj (S.clean id _).bX id).1=_;rw[(wX id _).2.2.2.1]
 ·next a=>
  rw[bJ a]at ho;split
  ·show(jj (S.ft id _ _).1.bX id).1=_;congr 1;unfold Cs.ft;split;·rfl
   ·dsimp only;split<;>rfl
  ·next h2=>rw[bJ h2]at ho;cases ho
def wY{R:bA dy}{gs:bR}{id:Int}(h:id∈jk R gs):∃e∈R,e.id=id/\e.group∈gs:=by
 unfold jk at h;obtain⟨a,_,h⟩:=y7.1 h;obtain⟨e,he,rfl⟩:=fo.1 h;rw[gq,dA]at he;exact⟨e,he.1,rfl,by simpa using he.2.1⟩
def sc{held:Int->Bool}:∀(l:bR) {S:Cs},(pass held l S).2=false->(pass held l S).1=S
 |[],_,_=>rfl
 |id::l,S,h=>by
  unfold pass at h ⊢;split;·next a=>rw[bL a]at h;exact sc l h
  ·next a=>
   rw[bJ a]at h;dsimp only at h ⊢;split;·next ho=>rw[bL ho]at h;cases h
   ·next ho=>
    rw[bJ ho]at h;have ho:(S.out id).2=false:=by simpa using ho
    rw[sa ho]at h ⊢;exact sc l h
def wZ{held:Int->Bool}:∀(l:bR) {S:Cs},(pass held l S).2=true->∃id,id∈l/\held (S.bt.get id).1.owner=false/\(S.out id).2=true/\(pass held l S).1=(S.out id).1
 |[],_,h=>by cases h
 |id::l,S,h=>by
  unfold pass at h ⊢;split
  ·next a=>
   rw[bL a]at h;obtain⟨x,h1,h2⟩:=wZ l h;exact⟨x,fT _ h1,h2⟩
  ·next a=>
   rw[bJ a]at h;dsimp only at h ⊢;split;·next ho=>exact⟨id,fz ..,by simpa using a,ho,rfl⟩
   ·next ho=>
    rw[bJ ho]at h;have ho:(S.out id).2=false:=by simpa using ho
    rw[sa ho]at h ⊢;obtain⟨x,h1,h2⟩:=wZ l h;exact⟨x,fT _ h1,h2⟩
def A2{t:Int}{gs:bR}{all:Bool}(h:(S.cO t gs all).2=false):(S.cO t gs all).1=S:=by
 unfold Cs.cO at h ⊢;split;·rfl
 ·next hl=>
  rw[bJ hl]at h;dsimp only at h ⊢;split;·next hr=>rw[bL hr]at h;cases h
  ·next hr=>
   rw[bJ hr]at h;have hr:=sc _ (by simpa using hr);split
   ·next a=>
    rw[bL a]at h;rw[sc _ h,hr]
   ·exact hr
def A3{t:Int}{gs:bR}{all:Bool}(h:(S.cO t gs all).2=true):S.live t=true/\∃id,id∈jk S.bX gs/\hy (S.held t eE.min) (S.bt.get id).1.owner=false/\(S.out id).2=true/\(S.cO t gs all).1=(S.out id).1:=by
 unfold Cs.cO at h ⊢;split;·next hl=>rw[bL hl]at h;cases h
 ·next hl=>
  rw[bJ hl]at h;refine⟨by simpa using hl,?_⟩;dsimp only at h ⊢;split
  ·next hr=>
   obtain⟨id,h1,h2,a,b⟩:=wZ _ hr;rw[FX]at h2;exact⟨id,h1,h2.1,a,b⟩
  ·next hr=>
   rw[bJ hr]at h;have hr:=sc _ (by simpa using hr);split
   ·next c=>
    rw[bL c]at h;rw[hr]at h ⊢;obtain⟨id,h1,h2,a,b⟩:=wZ _ h;exact⟨id,h1,h2,a,b⟩
   ·next c=>rw[bJ c]at h;cases h
def Inv.jN(h:Inv S){gs:bR}{id:Int}(hm:id∈jk S.bX gs):∃p,S.bt.pg id=some p/\p.place=1/\p.owner∈gs:=by
 obtain⟨e,he,a,b⟩:=wY hm;obtain⟨p,hp,h1,h2⟩:=(h.gen id e.group).1 ⟨e,he,a,rfl⟩;exact⟨p,hp,h1,by rw[h2];exact b⟩
def Inv.cO(h:Inv S)(t:Int)(gs:bR)(all:Bool):Inv (S.cO t gs all).1:=by
 cases hr:(S.cO t gs all).2 with
 |false=>rw[A2 hr];exact h
 |true=>
  obtain⟨_,id,h1,_,_,b⟩:=A3 hr;obtain⟨p,hp,a,_⟩:=h.jN h1;rw[b];exact h.out hp a
def Inv.c2(h:Inv S)(t:Int):Inv (S.c2 t).1:=h.cO t _ _
def HD(h:Inv S){t:Int}{gs:bR}{all:Bool}(hr:(S.cO t gs all).2=true):(S.cO t gs all).1.bX.length<S.bX.length:=by
 obtain⟨_,id,h1,_,b,c⟩:=A3 hr;obtain⟨e,he,a,_⟩:=wY h1;rw[c,UX b];exact UQ ((UT h.eu).2 ⟨e,he,a⟩)
def Inv.db{t:Int}{gs:bR}:∀(n:Nat) {S:Cs},Inv S->Inv (db t gs n S).1
 |0,_,h=>h
 |n+1,_,h=>Inv.db n (h.cO t gs false)
def Inv.ct{t:Int}:∀(l:bA (Int×Int)) {S:Cs},Inv S->Inv (ct t l S).1
 |[],_,h=>h
 |(_,k)::l,_,h=>Inv.ct l (Inv.db k.toNat h)
def Inv.dC{t:Int}:∀(n:Nat) {S:Cs},Inv S->Inv (dC t n S).1
 |0,_,h=>h
 |n+1,S,h=>by
  unfold Kc.dC;dsimp only;split;·exact Inv.dC n (h.c2 t)
  ·exact h.c2 t
def Inv.shrink(h:Inv S)(t n:Int):Inv (S.shrink t n).1:=by
 unfold Cs.shrink;split;·exact h
 ·exact Inv.dC _ (Inv.ct _ h)
end Go.Kc
namespace Go.Kc
open Go Go.Kt Go.Sp
variable{S:Cs}
inductive eD:Cs->Cs->Prop
 |refl (S:Cs):eD S S
 |step {S S':Cs} {id:Int} {p:Pg} (hp:S.bt.pg id=some p) (h1:p.place=1) (ho:(S.out id).2=true) (h:eD (S.out id).1 S'):eD S S'
def eD.trans{A B C:Cs}(h:eD A B)(h':eD B C):eD A C:=by
 induction h with
 |refl=>exact h'
 |step hp h1 ho _ a=>exact .step hp h1 ho (a h')
def eD.cO(h:Inv S)(t:Int)(gs:bR)(all:Bool):eD S (S.cO t gs all).1:=by
 cases hr:(S.cO t gs all).2 with
 |false=>rw[A2 hr];exact .refl S
 |true=>
  obtain⟨_,id,h1,_,b,c⟩:=A3 hr;obtain⟨p,hp,a,_⟩:=h.jN h1;rw[c];exact .step hp a b (.refl _)
def eD.inv{S':Cs}(h:eD S S')(a:Inv S):Inv S':=by
 induction h with
 |refl=>exact a
 |step hp h1 ho _ b=>exact b (a.out hp h1)
structure Kept(S S':Cs):Prop where
 tree:S'.tree=S.tree
 guards:S'.guards=S.guards
 bY:S'.files.bY=S.files.bY
 next:S'.bt.next=S.bt.next
 bS:S'.fr.bS.length=S.fr.bS.length/\S'.sl.bS.length=S.sl.bS.length
 bK:∀id p,S.bt.pg id=some p->∃q,S'.bt.pg id=some q/\q.kf=p.kf/\q.ki=p.ki/\q.owner=p.owner/\q.refs=p.refs/\(p.place≠1->q=p)
 none_:∀id,S.bt.pg id=none->S'.bt.pg id=none
 lim:∀g,g8 S'.fr.used g=g8 S.fr.used g/\g8 S'.sl.used g=g8 S.sl.used g
def Kept.refl(S:Cs):Kept S S:=⟨rfl,rfl,rfl,rfl,⟨rfl,rfl⟩,λ_ p h=>⟨p,h,rfl,rfl,rfl,rfl,λ_=>rfl⟩,λ_ h=>h,λ_=>⟨rfl,rfl⟩⟩
def Kept.trans{A B C:Cs}(h:Kept A B)(h':Kept B C):Kept A C:=by
 refine⟨h'.tree.trans h.tree,h'.guards.trans h.guards,h'.bY.trans h.bY,h'.next.trans h.next,⟨h'.bS.1.trans h.bS.1,h'.bS.2.trans h.bS.2⟩,λid p hp=>?_,λid hn=>h'.none_ id (h.none_ id hn),λg=>⟨(h'.lim g).1.trans (h.lim g).1,(h'.lim g).2.trans (h.lim g).2⟩⟩;obtain⟨q,d,b,c,a3,a4,a5⟩:=h.bK id p hp;obtain⟨r,hr,b1,b2,b3,b4,b5⟩:=h'.bK id q d;refine⟨r,hr,b1.trans b,b2.trans c,b3.trans a3,b4.trans a4,λa=>?_⟩;have e:=a5 a;rw[b5 (by rw[e];exact a),e]
def HE{C:bA eO}(b:C.length=64)(l:bR)(n g:Int):g8 (gk C l n).1 g=g8 C g:=by
 cases hr:jh l n with
 |false=>unfold gk;rw[hr];rfl
 |true=>
  by_cases hb:∃x∈l,cW C x<n;·rw[Hz hr hb]
  ·rw[r9 hr (λx hx=>Int.not_lt.1 (λa=>hb ⟨x,hx,a⟩))];have:=mY.1 hr;exact uj b this.1 this.2.1
def UY{C:bA eO}(b:C.length=64)(l:bR)(n g:Int):g8 (dh C l n).1 g=g8 C g:=by
 cases hr:jh l n with
 |false=>unfold dh;rw[hr];rfl
 |true=>
  by_cases a:(dh C l n).2.2=0
  ·rw[(uk a).2.1];have:=mY.1 hr;exact uj b this.1 this.2.1
  ·obtain⟨x,_,he,_⟩:=um hr a;rw[he]
def q4(T:TS)(id:Int)(d:Bool):(T.mark id d).1.next=T.next/\(T.mark id d).1.files=T.files/\(T.mark id d).1.c1=T.c1/\∀x,(T.mark id d).1.pg x=(T.pg x).map λp=>if x=id then {p with e9:=d} else p:=by
 unfold TS.mark;cases hp:T.pg id with
 |none=>
  refine⟨rfl,rfl,rfl,λx=>?_⟩;by_cases e:x=id;·subst e;simp[hp]
  ·cases T.pg x<;>simp[e]
 |some p=>
  refine⟨rfl,rfl,rfl,λx=>?_⟩;show cL T.pg id (some _) x=_;by_cases e:x=id;·subst e;rw[kv,hp];simp
  ·rw[dc _ _ e];cases T.pg x<;>simp[e]
def HF{id:Int}{h:Pg}(f:S.bt.pg id=some h)(h1:h.place=1)(p:Pg):Kept S (S.clean id p):=by
 obtain⟨i,c,d,k,l,m,j⟩:=wX (S:=S) id p;refine⟨i,j,?_,?_,⟨by rw[c],by rw[d]⟩,λx q a=>?_,λx hx=>?_,λg=>by rw[c,d];exact⟨rfl,rfl⟩⟩
 ·unfold Cs.clean;split
  ·show(nr _ _ _).1.bY=_;unfold nr;split;·rfl
   ·split<;>rfl
  ·rfl
 ·unfold Cs.clean;split;·exact(q4 _ _ _).1
  ·rfl
 ·unfold Cs.clean;split
  ·show ∃r,(S.bt.mark id false).1.pg x=some r/\_;rw[(q4 _ _ _).2.2.2,a];refine⟨_,rfl,?_,?_,?_,?_,λb=>?_⟩;·split<;>rfl
   ·split<;>rfl
   ·split<;>rfl
   ·split<;>rfl
   ·refine bJ (λe=>?_);subst e;rw[f]at a;rw[<- cU a]at b;exact b h1
  ·exact⟨q,a,rfl,rfl,rfl,rfl,λ_=>rfl⟩
 ·unfold Cs.clean;split
  ·show(S.bt.mark id false).1.pg x=none;rw[(q4 _ _ _).2.2.2,hx];rfl
  ·exact hx
def Kept.lL{T:TS}{id:Int}{p:Pg}{pl a:Int}(hp:T.pg id=some p)(h1:p.place=1):(∀x q,T.pg x=some q->∃r,(T.dQ id p pl a).pg x=some r/\r.kf=q.kf/\r.ki=q.ki/\r.owner=q.owner/\r.refs=q.refs/\(q.place≠1->r=q))/\∀x,T.pg x=none->(T.dQ id p pl a).pg x=none:=by
 refine⟨λx q b=>?_,λx hx=>?_⟩
 ·rw[jy];by_cases e:x=id
  ·subst e;rw[hp]at b;have:=cU b;subst this;exact⟨_,bL rfl,rfl,rfl,rfl,rfl,λc=>absurd h1 c⟩
  ·exact⟨q,by rw[bJ e];exact b,rfl,rfl,rfl,rfl,λ_=>rfl⟩
 ·rw[jy];by_cases e:x=id;·subst e;rw[hp]at hx;cases hx
  ·rw[bJ e];exact hx
def UZ(h:Inv S){id:Int}{p:Pg}(hp:S.bt.pg id=some p)(h1:p.place=1):Kept S (S.out id).1:=by
 cases ho:(S.out id).2 with
 |false=>rw[sa ho];exact .refl S
 |true=>
  unfold Cs.out at ho ⊢;rw[h.bK hp]at ho ⊢;dsimp only at ho ⊢;by_cases hk:0<=p.kf
  ·rw[bL hk];dsimp only;refine(HF hp h1 p).trans ?_;obtain⟨q,d,f,j,n,o,r,s⟩:=A1 id p p hp;have e:=h.clean id p;rw[e.nx d];have b:=Kept.lL (pl:=0) (a:=0) d (by rw[f,h1]);refine⟨rfl,rfl,rfl,rfl,⟨?_,rfl⟩,b.1,b.2,λg=>⟨?_,rfl⟩⟩;·exact rY _ _
   ·exact HE e.fr.used.len _ _ _
  ·rw[bJ hk]at ho ⊢;split at ho
   ·next hw=>
    rw[bL hw];dsimp only;unfold Cs.ft at hw ⊢;split at hw;·cases hw
    next i=>
    rw[bJ i];dsimp only at hw ⊢;split at hw;·cases hw
    next hf=>
    rw[bJ hf];dsimp only;obtain⟨a,l,_,he⟩:=AX (by simpa using hf);rw[he];dsimp only;have k:∀q c,S.bt.pg c=some q->q.place=2->q.at_=(a:Int)->(2:Int)≠0->c=id:=by
     intro q c d f j _;have:=(h.sl.taken a).2 ⟨c,q,d,f,j⟩;rw[l]at this;cases this
    rw[h.cI.put_eq hp ⟨bN,bN,bu,λm=>absurd m bN⟩ k];have b:=Kept.lL (pl:=2) (a:=a) hp h1;refine⟨rfl,rfl,rfl,rfl,⟨rY _ _,dM⟩,b.1,b.2,λg=>⟨HE h.fr.used.len _ _ _,UY h.sl.used.len _ _ _⟩⟩
   ·cases ho
def eD.kept{S':Cs}(h:eD S S')(a:Inv S):Kept S S':=by
 induction h with
 |refl S=>exact .refl S
 |step hp h1 ho _ b=>exact(UZ a hp h1).trans (b (a.out hp h1))
def HG{C:bA eO}(a:C.length=64){l:bR}(hl:∀g∈l,0<=g/\g<64)(hn:l.Nodup)(n:Int):dF (dF C l n) l (-n)=C:=by
 apply hg;intro i;rcases hN i 64 with d|d
 ·have h1:(dF (dF C l n) l (-n)).length=64:=by rw[nw,nw];exact a
  have b:fX (i:Int)=true:=jM.2 ⟨bu,bu⟩;have:=qS (-n) l (C:=dF C l n) (h:=(i:Int)) (by rw[nw];exact a) hl hn b;rw[qS n l a hl hn b]at this;rw[dz]at this;rw[dN,dN];simp only[dT]at this;rw[dN,dN]at this;simp only[mH]at this;rw[this];split
  ·next hm=>
   congr 1;generalize C[i]=c;cases c;simp only[eO.mk.injEq,and_true];omega
  ·rfl
 ·rw[g2 (by rw[nw,nw];omega),g2 bu]
structure ny(S S0:Cs)(g:Int)(a:Nat)(r:Cs×Int×Int×Int):Prop where
 outs:eD S S0
 free:S0.fr.bS[a]?=some false
 least:∀j,j<a->S0.fr.bS[j]?=some true
 lim:∀x∈dp S.tree g,cW S0.fr.used x+1<=g8 S0.fr.used x
 eq:r=({S0 with fr:={S0.fr with bS:=S0.fr.bS.set a true,used:=dF S0.fr.used (dp S.tree g) 1}},(a:Int), -1,0)
structure ur(S S0:Cs)(g t:Int)(r:Cs×Int×Int×Int):Prop where
 outs:eD S S0
 no:(S0.c2 t).2=false
 Hd:(t=0/\∀b∈S0.fr.bS,b=true)\/(t∈dp S.tree g/\g8 S0.fr.used t<cW S0.fr.used t+1)
 eq:r=(S0, -1,t,12)
def fP{g:Int}:∀(n:Nat) {S:Cs},Inv S->S.live g=true->S.bX.length<n->(∃S0 a,ny S S0 g a (take g n S))\/∃S0 t,ur S S0 g t (take g n S):=by
 intro n;induction n with
 |zero=>intro S _ _ h;omega
 |succ n r=>
  intro S h hl hn;have i:=qT h.wf hl;have hr:=uo h.wf hl (n:=1) ⟨bN,bN⟩;have full:∀t:Int,((t=0/\∀b∈S.fr.bS,b=true)\/(t∈dp S.tree g/\g8 S.fr.used t<cW S.fr.used t+1))->
    (∃S0 a,ny S S0 g a (if(S.c2 t).2 then take g n (S.c2 t).1 else((S.c2 t).1, -1,t,12)))\/∃S0 j,ur S S0 g j (if(S.c2 t).2 then take g n (S.c2 t).1 else((S.c2 t).1, -1,t,12)):=by
   intro t q;cases he:(S.c2 t).2 with
   |false=>
    refine .inr ⟨S,t,.refl S,he,q,?_⟩;have:(S.c2 t).1=S:=A2 he;rw[this];rfl
   |true=>
    have p:=h.c2 t;have ho:eD S (S.c2 t).1:=eD.cO h t _ _;have hk:=ho.kept h;have d:=HD h he;have l:(S.c2 t).1.live g=true:=by unfold Cs.live;rw[hk.tree];exact hl
    rcases r p l (by have:(S.c2 t).1.bX.length<S.bX.length:=d;omega)with⟨S0,a,k⟩|⟨S0,j,k⟩
    ·refine .inl ⟨S0,a,ho.trans k.outs,k.free,k.least,?_,?_⟩;·have:=k.lim;rw[hk.tree]at this;exact this
     ·have:=k.eq;rw[hk.tree]at this;simpa using this
    ·refine .inr ⟨S0,j,ho.trans k.outs,k.no,?_,by simpa using k.eq⟩;have:=k.Hd;rw[hk.tree]at this;exact this
  unfold take;dsimp only;by_cases e:(dh S.fr.used (S.chain g) 1).2.2=0
  ·rw[bL e];obtain⟨_,he,hle⟩:=uk e;by_cases hp:(fW S.fr.bS).2.2=0
   ·rw[bL hp];obtain⟨a,o,c,m⟩:=AX hp;refine .inl ⟨S,a,.refl S,o,c,λx hx=>hle x hx bN,?_⟩;rw[he,m];rfl
   ·rw[bJ hp];have f:(gk (dh S.fr.used (S.chain g) 1).1 (S.chain g) 1).1=S.fr.used:=by
     rw[he];show(gk (dF S.fr.used (dp S.tree g) 1) (dp S.tree g) 1).1=_;rw[r9 hr (λx hx=>?_)];·exact HG h.fr.used.len i.1 i.2.1 1
     ·rw[pn h.fr.used.len i.1 i.2.1,bL hx];have:=(h.fr.used.of x).1.1;unfold cW;omega
    rw[f];exact full 0 (.inl ⟨rfl,(AY hp).1⟩)
  ·rw[bJ e];obtain⟨x,hx,he,_,d⟩:=um hr e;rw[show dh S.fr.used (S.chain g) 1=(S.fr.used,x,22)from he];exact full x (.inr ⟨hx,d⟩)
def Cs.fP(h:Inv S){g:Int}(hl:S.live g=true):(∃S0 a,ny S S0 g a (S.take g))\/∃S0 t,ur S S0 g t (S.take g):=Kc.fP _ h hl bu
def ix.more{T T':TS}{tree:bA G}{s:fa}{pl:Int}(l:hA T)(h:ix T tree s pl)(k:pl≠0)(hn:T'.next=T.next+1)(c:∀x,x≠T.next->T'.pg x=T.pg x){p:Pg}(hp:T'.pg T.next=some p)(m:p.place=0):ix T' tree s pl:=by
 have j:T.pg T.next=none:=by
  cases b:T.pg T.next with
  |none=>rfl
  |some q=>have:=l.ids _ _ b;omega
 have key:∀is:Pg->Bool,iJ T' pl is=iJ T pl is:=by
  intro is;unfold iJ;have e:T'.next.toNat=T.next.toNat+1:=by have:=l.next;omega
  rw[e,qv];have f:((T.next.toNat:Nat):Int)=T.next:=by have:=l.next;omega
  have:ml T' pl is T.next.toNat=false:=by unfold ml;rw[f,hp];simp[m,nc k]
  rw[this];show hz _ _+0=_;rw[k1];exact AW (λi r=>by unfold ml;rw[c (i:Int) bu])
 refine⟨h.e8,h.len,h.used,λa=>?_,λg o n=>by rw[h.use g o n,key],by rw[h.all,key]⟩;rw[h.taken a];constructor
 ·rintro⟨x,q,b,d,f⟩;have hx:x≠T.next:=λe=>by rw[e,j]at b;cases b
  exact⟨x,q,by rw[c x hx];exact b,d,f⟩
 ·rintro⟨x,q,b,d,f⟩;by_cases hx:x=T.next
  ·subst hx;rw[hp]at b;rw[<- cU b,m]at d;exact absurd d.symm k
  ·rw[c x hx]at b;exact⟨x,q,b,d,f⟩
def gJ(T:TS)(kf ki:Int):Int×Int:=if kf<0 then(-1,T.next)else(kf,ki)
def HH(T:TS){kf ki o:Int}(hn:0<=T.next/\T.next<16777216)(b:kf<0\/T.of (kf,ki)<0):
  T.make kf ki o=(⟨cL T.pg T.next (some ⟨(gJ T kf ki).1,(gJ T kf ki).2,0,0,o,0,0,false,false⟩),if kf<0 then T.files else cL T.files (kf,ki) (some T.next),T.c1,T.next+1⟩,T.next,0):=by
 have hw:i64.wrap (T.next+1)=T.next+1:=cR bu bu;unfold TS.make gJ;by_cases a:kf<0
 ·rw[bL a,bL a,bL a];unfold TS.iH;rw[hw]
 ·rw[bJ a,bJ a,bJ a,cF];unfold TS.iH;dsimp only;rw[hw]
def Inv0.make(h:Inv0 S)(hn:S.bt.next<16777216){kf ki o:Int}(hl:S.live o=true)(v:kf<0\/(S.bt.of (kf,ki)<0/\ej S.files (kf,ki)=true)):Inv0 {S with bt:=(S.bt.make kf ki o).1} :=by
 rw[HH _ ⟨h.cI.next,hn⟩ (v.imp_right And.left)];dsimp only;generalize s:(⟨cL S.bt.pg S.bt.next (some ⟨(gJ S.bt kf ki).1,(gJ S.bt kf ki).2,0,0,o,0,0,false,false⟩),if kf<0 then S.bt.files else cL S.bt.files (kf,ki) (some S.bt.next),S.bt.c1,S.bt.next+1⟩:TS)=T';have d:∀x,T'.pg x=if x=S.bt.next then some ⟨(gJ S.bt kf ki).1,(gJ S.bt kf ki).2,0,0,o,0,0,false,false⟩else S.bt.pg x:=by subst s;exact λx=>rfl
 have z:T'.c1=S.bt.c1:=by subst s;rfl
 have t:T'.next=S.bt.next+1:=by subst s;rfl
 have w:T'.files=if kf<0 then S.bt.files else cL S.bt.files (kf,ki) (some S.bt.next):=by subst s;rfl
 clear s;have k:S.bt.pg S.bt.next=none:=by
  cases b:S.bt.pg S.bt.next with
  |none=>rfl
  |some q=>have:=h.cI.ids _ _ b;omega
 have j:∀x,x≠S.bt.next->T'.pg x=S.bt.pg x:=λx hx=>by rw[d,bJ hx]
 have u:T'.pg S.bt.next=some ⟨(gJ S.bt kf ki).1,(gJ S.bt kf ki).2,0,0,o,0,0,false,false⟩:=by rw[d,bL rfl]
 refine {h with cI:=⟨by rw[t];have:=h.cI.next;omega,λx q b=>?_,λpl a x=>?_,λi m x=>?_,λx q b=>?_⟩,own:=λx q b=>?_,fr:=h.fr.more h.cI bN t j u rfl,sl:=h.sl.more h.cI bN t j u rfl,gen:=λx g=>?_,kx:=λx q b=>?_,ids:=by show T'.next<=_;rw[t];omega}
 ·rw[t];rw[d]at b;split at b;·next e=>subst e;have:=h.cI.next;omega
  ·have:=h.cI.ids _ _ b;omega
 ·rw[z,h.cI.spot];constructor
  ·rintro⟨q,b,e⟩;exact⟨q,by rw[j x (λe=>by rw[e,k]at b;cases b)];exact b,e⟩
  ·rintro⟨q,b,c,f,r⟩;rw[d]at b;split at b
   ·rw[<- cU b]at c;exact absurd c.symm r
   ·exact⟨q,b,c,f,r⟩
 ·rw[w];by_cases l:kf<0
  ·rw[bL l,h.cI.file];constructor
   ·rintro⟨q,b,e⟩;exact⟨q,by rw[j x (λe=>by rw[e,k]at b;cases b)];exact b,e⟩
   ·rintro⟨q,b,c,f,r⟩;rw[d]at b;split at b
    ·rw[<- cU b]at c;have c:(gJ S.bt kf ki).1=i:=c;unfold gJ at c;rw[bL l]at c;have c:(-1:Int)=i:=c;omega
    ·exact⟨q,b,c,f,r⟩
  ·rw[bJ l];have y:S.bt.files (kf,ki)=none:=by
    rcases v with n|⟨n,_⟩
    ·exact absurd n l
    ·unfold TS.of at n;cases hf:S.bt.files (kf,ki)with
     |none=>rfl
     |some x=>
      rw[hf]at n;obtain⟨q,b,_⟩:=(h.cI.file kf ki x).1 hf;have:=h.cI.ids _ _ b;simp at n;omega
   unfold cL;by_cases e:(i,m)=(kf,ki)
   ·rw[bL e];have e:i=kf/\m=ki:=by simpa using e
    obtain⟨rfl,rfl⟩:=e;constructor
    ·intro hx;have:=cU hx;subst this;refine⟨_,u,?_,?_,bu⟩;·show(gJ S.bt i m).1=i;unfold gJ;rw[bJ l]
     ·show(gJ S.bt i m).2=m;unfold gJ;rw[bJ l]
    ·rintro⟨q,b,c,f,r⟩;rw[d]at b;split at b;·next e=>rw[e]
     ·have:=(h.cI.file i m x).2 ⟨q,b,c,f,r⟩;rw[y]at this;cases this
   ·rw[bJ e,h.cI.file];constructor
    ·rintro⟨q,b,e⟩;exact⟨q,by rw[j x (λe=>by rw[e,k]at b;cases b)];exact b,e⟩
    ·rintro⟨q,b,c,f,r⟩;rw[d]at b;split at b
     ·rw[<- cU b]at c f;have c:(gJ S.bt kf ki).1=i:=c;have f:(gJ S.bt kf ki).2=m:=f;unfold gJ at c f;rw[bJ l]at c f;exact absurd (by rw[<- c,<- f]) e
     ·exact⟨q,b,c,f,r⟩
 ·rw[d]at b;split at b;·rw[<- cU b];exact⟨⟨g3 _,(by show(0:Int)<=2;decide),g3 _,λ_=>rfl⟩,g3 _⟩
  ·exact h.cI.pl _ _ b
 ·rw[d]at b;split at b;·rw[<- cU b];exact hl
  ·exact h.own _ _ b
 ·show _↔∃p,T'.pg x=some p/\_;rw[h.gen];constructor
  ·rintro⟨q,b,e⟩;exact⟨q,by rw[j x (λe=>by rw[e,k]at b;cases b)];exact b,e⟩
  ·rintro⟨q,b,c,f⟩;rw[d]at b;split at b;·rw[<- cU b]at c;cases c
   ·exact⟨q,b,c,f⟩
 ·intro hk;rw[d]at b;split at b
  ·rw[<- cU b]at hk ⊢;have hk:0<=(gJ S.bt kf ki).1:=hk;refine⟨?_,by show(0:Int)≠2;decide⟩;show ej S.files ((gJ S.bt kf ki).1,(gJ S.bt kf ki).2)=true;unfold gJ at hk ⊢;by_cases l:kf<0;·rw[bL l]at hk;have hk:(0:Int)<= -1:=hk;omega
   ·rw[bJ l];rcases v with n|⟨_,n⟩
    ·exact absurd n l
    ·exact n
  ·exact h.kx _ _ b hk
def U0(h:Inv0 S){id:Int}(a:∀p,S.bt.pg id=some p->p.place≠1):ff S.bX id=none:=by
 rw[r5 h.eu.cZ];rintro e he rfl;obtain⟨p,hp,h1,_⟩:=(h.gen e.id e.group).1 ⟨e,he,rfl,rfl⟩;exact a p hp h1
def U1{T:TS}{id o:Int}{p:Pg}(hp:T.pg id=some p):T.own id o=(T.cK id {p with owner:=o},0):=by unfold TS.own;rw[hp]
def Inv0.toFrame(h:Inv0 S){id g:Int}{p:Pg}(hp:S.bt.pg id=some p)(f:p.place=0\/(p.place=2/\p.owner=g))(hl:S.live g=true){a:Nat}(u:S.fr.bS[a]?=some false)(s:∀x∈dp S.tree g,cW S.fr.used x+1<=g8 S.fr.used x)(text:bA UInt8)(dY:Bool):
  Inv0 (Cs.place {S with fr:={S.fr with bS:=S.fr.bS.set a true,used:=dF S.fr.used (dp S.tree g) 1},sl:=if p.place=2 then S.sl.dv p.at_ (dp S.tree g)else S.sl} id a g text dY)/\
  ((S.bt.own id g).1.put id 1 a).1=(S.bt.cK id {p with owner:=g}).dQ id {p with owner:=g} 1 a:=by
 have j:p.place≠1:=by rcases f with e|⟨e,_⟩<;>rw[e]<;>decide
 have m:hA (S.bt.cK id {p with owner:=g}):=h.cI.set hp rfl rfl rfl rfl (h.cI.pl _ _ hp).2;have r:(S.bt.cK id {p with owner:=g}).pg id=some {p with owner:=g} :=kv _ _ _;have t:∀q x,S.bt.pg x=some q->q.place=1->q.at_≠(a:Int):=by
  intro q x b i k;have:=(h.fr.taken a).2 ⟨x,q,b,i,k⟩;rw[u]at this;cases this
 have n:∀q x,(S.bt.cK id {p with owner:=g}).pg x=some q->q.place=1->q.at_=(a:Int)->(1:Int)≠0->x=id:=by
  intro q x b i k _;rcases kQ b with⟨e,_⟩|⟨_,b⟩
  ·exact e
  ·exact absurd k (t q x b i)
 have heq:((S.bt.own id g).1.put id 1 a).1=(S.bt.cK id {p with owner:=g}).dQ id {p with owner:=g} 1 a:=by
  rw[U1 hp,m.put_eq r ⟨bN,bN,bu,λl=>absurd l bN⟩ n]
 refine⟨?_,heq⟩;have z:=m.dQ r (pl:=1) (a:=a) ⟨bN,bN,bu,λl=>absurd l bN⟩ n;have c:∀x,((S.bt.cK id {p with owner:=g}).dQ id {p with owner:=g} 1 a).pg x=if x=id then some {p with owner:=g,place:=1,at_:=a} else S.bt.pg x:=by
  intro x;rw[jy];by_cases e:x=id;·rw[bL e,bL e];rfl
  ·rw[bJ e,bJ e];exact dc _ _ e
 have d:∀x,x≠id->((S.bt.cK id {p with owner:=g}).dQ id {p with owner:=g} 1 a).pg x=S.bt.pg x:=λx hx=>by rw[c,bJ hx]
 have y:¬ ie id g:=by
  unfold ie;have h1:=h.cI.ids _ _ hp;have h2:=h.ids;have A:=Ts hl;have B:=h.wf.e8;omega
 have v:=U0 h (id:=id) (λq b=>by rw[hp]at b;rw[<- cU b];exact j);unfold Cs.place;rw[heq];refine⟨h.wf,h.gl,z,λx q b=>?_,?_,?_,h.eu.add id g dY,λx o=>?_,h.log,λx q b=>?_,h.q0,h.ids⟩
 ·rw[c]at b;split at b;·rw[<- cU b];exact hl
  ·exact h.own _ _ b
 ·refine h.fr.po (T':=(S.bt.cK id {p with owner:=g}).dQ id {p with owner:=g} 1 a) h.cI h.wf hp j rfl d (q:={p with owner:=g,place:=1,at_:=a}) (by rw[c,bL rfl]) rfl hl rfl u s ?_;show(By.wr (S.fr.bS.set a true).length S.fr.dd a text).1.length=_;rw[dM];exact By.AV h.fr.len _
 ·show ix _ _ (if p.place=2 then S.sl.dv p.at_ (dp S.tree g)else S.sl) 2;rcases f with f|⟨f,w⟩
  ·rw[bJ (by rw[f];decide)];refine h.sl.other rfl (λx=>?_);by_cases hx:x=id
   ·subst hx;refine .inr (.inl ⟨λq b=>?_,λq b=>?_⟩);·rw[hp]at b;rw[<- cU b,f];decide
    ·rw[c,bL rfl]at b;rw[<- cU b];show(1:Int)≠2;decide
   ·exact .inl (d x hx)
  ·rw[bL f,<- w];rw[<- w]at d c;refine h.sl.dv h.cI h.wf bN hp f (h.own _ _ hp) rfl d (λq b=>?_);rw[c,bL rfl]at b;rw[<- cU b];show(1:Int)≠2;decide
 ·show(∃e∈(jI S.bX id g dY).1,e.id=x/\e.group=o)↔∃q,((S.bt.cK id {p with owner:=g}).dQ id {p with owner:=g} 1 a).pg x=some q/\q.place=1/\q.owner=o;rw[US h.eu y v,h.gen,c];by_cases hx:x=id
  ·rw[bL hx];constructor
   ·rintro(⟨_,e⟩|⟨q,b,i,_⟩);·exact⟨_,rfl,rfl,e.symm⟩
    ·rw[hx,hp]at b;rw[<- cU b]at i;exact absurd i j
   ·rintro⟨q,b,i,k⟩;rw[<- cU b]at k;exact .inl ⟨hx,k.symm⟩
  ·rw[bJ hx];exact⟨λl=>l.resolve_left (λe=>hx e.1),.inr⟩
 ·rw[c]at b;split at b
  ·rw[<- cU b];exact λhk=>⟨(h.kx _ _ hp hk).1,by show(1:Int)≠2;decide⟩
  ·exact h.kx _ _ b
def Inv0.jz{S0:Cs}(h:Inv S)(ho:eD S S0){g:Int}(hl:S.live g=true):S0.live g=true:=by
 unfold Cs.live;rw[(ho.kept h).tree];exact hl
def pv(T:TS){kf ki o:Int}(hn:0<=T.next/\T.next<16777216)(a:kf<0\/T.of (kf,ki)<0):(T.make kf ki o).2=(T.next,0)/\(T.make kf ki o).1.next=T.next+1/\
  ∀x,(T.make kf ki o).1.pg x=if x=T.next then some ⟨(gJ T kf ki).1,(gJ T kf ki).2,0,0,o,0,0,false,false⟩else T.pg x:=by
 rw[HH T hn a];exact⟨rfl,rfl,λx=>rfl⟩
def HI{T:TS}{id g a:Int}{p:Pg}{S:Cs}{text:bA UInt8}{dY:Bool}(he:((S.bt.own id g).1.put id 1 a).1=(S.bt.cK id {p with owner:=g}).dQ id {p with owner:=g} 1 a)(x:Int):
  (S.place id a g text dY).bt.pg x=if x=id then some {p with owner:=g,place:=1,at_:=a} else S.bt.pg x:=by
 have _:=T;show(((S.bt.own id g).1.put id 1 a).1).pg x=_;rw[he,jy];by_cases e:x=id;·rw[bL e,bL e];rfl
 ·rw[bJ e,bJ e];exact dc _ _ e
def uu(h:Inv S)(hn:S.bt.next<16777216){g:Int}(hl:S.live g=true)(text:bA UInt8):
  (∃S0 a,ny S S0 g a (S.take g)/\S.c3 g text=(Cs.place {S0 with bt:=(S0.bt.make (-1) 0 g).1,fr:={S0.fr with bS:=S0.fr.bS.set a true,used:=dF S0.fr.used (dp S0.tree g) 1}} S0.bt.next a g text false,S.bt.next, -1,0)/\
   Inv (S.c3 g text).1/\(∀x,(S.c3 g text).1.bt.pg x=if x=S.bt.next then some ⟨-1,S.bt.next,1,a,g,0,0,false,false⟩else S0.bt.pg x))\/
  ∃S0 t,ur S S0 g t (S.take g)/\S.c3 g text=(S0, -1,t,12):=by
 rcases Cs.fP h hl with⟨S0,a,k⟩|⟨S0,t,k⟩
 ·have hk:=k.outs.kept h;have j:=k.outs.inv h;have d:S0.live g=true:=Inv0.jz h k.outs hl;have f:S0.bt.next<16777216:=by rw[hk.next];exact hn
  have hm:=pv S0.bt (kf:= -1) (ki:=0) (o:=g) ⟨j.cI.next,f⟩ (.inl bN);have n:=j.toInv0.make f (kf:= -1) (ki:=0) d (.inl bN);have hp:(S0.bt.make (-1) 0 g).1.pg S0.bt.next=some ⟨-1,S0.bt.next,0,0,g,0,0,false,false⟩:=by rw[hm.2.2,bL rfl];rfl
  have l:=n.toFrame (id:=S0.bt.next) (g:=g) hp (.inl rfl) d k.free (by have:=k.lim;rw[<- hk.tree]at this;exact this) text false;have b:S.c3 g text=(Cs.place {S0 with bt:=(S0.bt.make (-1) 0 g).1,fr:={S0.fr with bS:=S0.fr.bS.set a true,used:=dF S0.fr.used (dp S0.tree g) 1}} S0.bt.next a g text false,S.bt.next, -1,0):=by
   unfold Cs.c3;rw[k.eq];dsimp only;rw[bJ bN];rw[hm.1,hk.next,hk.tree]
  have i:∀x,(S.c3 g text).1.bt.pg x=if x=S.bt.next then some ⟨-1,S.bt.next,1,a,g,0,0,false,false⟩else S0.bt.pg x:=by
   intro x;rw[b];have:=HI (T:=S0.bt) (S:={S0 with bt:=(S0.bt.make (-1) 0 g).1,fr:={S0.fr with bS:=S0.fr.bS.set a true,used:=dF S0.fr.used (dp S0.tree g) 1}}) (text:=text) (dY:=false) l.2 x;refine this.trans ?_;rw[hk.next];by_cases e:x=S.bt.next;·rw[bL e,bL e]
   ·rw[bJ e,bJ e,hm.2.2,hk.next,bJ e]
  refine .inl ⟨S0,a,k,b,⟨?_,λx q c m=>?_⟩,i⟩;·rw[b];exact l.1
  ·rw[i]at c;split at c;·rw[<- cU c];show(1:Int)≠0;decide
   ·exact j.anon _ _ c m
 ·refine .inr ⟨S0,t,k,?_⟩;unfold Cs.c3;rw[k.eq];dsimp only;rw[bL bN]
def Inv.c3(h:Inv S)(hn:S.bt.next<16777216){g:Int}(hl:S.live g=true)(text:bA UInt8):Inv (S.c3 g text).1:=by
 rcases uu h hn hl text with⟨S0,a,k,he,b,_⟩|⟨S0,t,k,he⟩
 ·exact b
 ·rw[he];exact k.outs.inv h
def Inv.fresh(h:Inv S)(hn:S.bt.next<16777216)(g:Int):Inv (S.fresh g).1:=by
 unfold Cs.fresh;split;·exact h
 ·next hl=>exact h.c3 hn (by simpa using hl) _
def Inv.copy(h:Inv S)(hn:S.bt.next<16777216)(id g:Int):Inv (S.copy id g).1:=by
 unfold Cs.copy;dsimp only;split;·exact h
 ·next hl=>
  have hl:S.live g=true:=by
   cases a:S.live g with
   |true=>rfl
   |false=>exact absurd (.inr (.inl a)) hl
  exact h.c3 hn hl _
structure U2(S S0:Cs)(id:Int)(p:Pg)(o:Int)(a:Nat)(r:Cs×Int×Int):Prop where
 took:ny S S0 o a (S.take o)
 bK:S0.bt.pg id=some p
 A4:r.2=(-1,0)
 pg:∀x,r.1.bt.pg x=if x=id then some {p with owner:=o,place:=1,at_:=a} else S0.bt.pg x
 next:r.1.bt.next=S.bt.next
 tree:r.1.tree=S.tree
 files:r.1.files=S0.files
 dd:r.1.fr.dd=(By.wr S0.fr.bS.length S0.fr.dd a (S0.text p)).1
 bS:r.1.fr.bS=S0.fr.bS.set a true
 used:r.1.fr.used=dF S0.fr.used (dp S.tree o) 1
 sl:r.1.sl=if p.place=2 then S0.sl.dv p.at_ (dp S.tree o)else S0.sl
 guards:r.1.guards=S.guards
def sd(h:Inv0 S)(j:∀x p,S.bt.pg x=some p->p.kf<0->p.place≠0){id g:Int}{p:Pg}(hp:S.bt.pg id=some p)(hl:S.live g=true)(B:¬ (p.place=0/\p.kf<0))(h1:p.place≠1):
  (∃S0 a,U2 S S0 id p (if p.place=0 then g else p.owner) a (S.cd id g)/\Inv (S.cd id g).1)\/∃S0 t,ur S S0 (if p.place=0 then g else p.owner) t (S.take (if p.place=0 then g else p.owner))/\S.cd id g=(S0,t,12):=by
 have i:Inv S:=⟨h,j⟩
 have m:S.live (if p.place=0 then g else p.owner)=true:=by
  split;·exact hl
  ·exact h.own _ _ hp
 have hb:S.cd id g=(let o:=if p.place=0 then g else p.owner
  let t:=S.take o
  if t.2.2.2≠0 then(t.1,t.2.2.1,t.2.2.2)else
  let text:=t.1.text p;let f:=if p.place=2 then {t.1 with sl:=t.1.sl.dv p.at_ (t.1.chain o)} else t.1
  let v:=mh f.log ((f.kept id).getD 0) (f.memory o)
  (f.place id t.2.1 o text (!v), -1,0)):=by
  unfold Cs.cd;rw[h.bK hp];dsimp only;rw[bJ (by rintro(c|c|c);exact c rfl;rw[hl]at c;cases c;exact B c),bJ h1]
 dsimp only at hb;rcases Cs.fP i m with⟨S0,a,k⟩|⟨S0,t,k⟩
 ·left;have hk:=k.outs.kept i;have y:=k.outs.inv i;obtain⟨q,C,_,_,_,_,s⟩:=hk.bK id p hp;have s:=s h1;subst s;generalize ho:(if q.place=0 then g else q.owner)=o at*
  have A:S0.live o=true:=Inv0.jz i k.outs m;have d:=k.lim;rw[<- hk.tree]at d;have l:∀(P:bA Bool) (U:bA eO),Cs.text {S0 with fr:={S0.fr with bS:=P,used:=U}} q=S0.text q:=by
   intro P U;unfold Cs.text;rw[bJ h1,bJ h1]
  have D:=(h.cI.pl _ _ hp).1;have w:q.place=0\/(q.place=2/\q.owner=o):=by
   by_cases e:q.place=0;·exact .inl e
   ·rw[bJ e]at ho;exact .inr ⟨bu,ho⟩
  have b:∃dY,S.cd id g=(Cs.place {S0 with fr:={S0.fr with bS:=S0.fr.bS.set a true,used:=dF S0.fr.used (dp S0.tree o) 1},sl:=if q.place=2 then S0.sl.dv q.at_ (dp S0.tree o)else S0.sl} id a o (S0.text q) dY, -1,0):=by
   refine⟨!mh S0.log ((S0.kept id).getD 0) (cW (dF S0.fr.used (dp S.tree o) 1) o),?_⟩;rw[hb,k.eq];dsimp only;rw[bJ bN,l,hk.tree];by_cases e:q.place=2
   ·simp only[bL e];rfl
   ·simp only[bJ e];rfl
  obtain⟨dY,b⟩:=b;have u:=y.toInv0.toFrame (id:=id) (g:=o) C w A k.free d (S0.text q) dY;have n:∀x,(S.cd id g).1.bt.pg x=if x=id then some {q with owner:=o,place:=1,at_:=a} else S0.bt.pg x:=by
   intro x;rw[b];exact HI (T:=S0.bt) (S:={S0 with fr:={S0.fr with bS:=S0.fr.bS.set a true,used:=dF S0.fr.used (dp S0.tree o) 1},sl:=if q.place=2 then S0.sl.dv q.at_ (dp S0.tree o)else S0.sl}) (text:=S0.text q) (dY:=dY) u.2 x
  refine⟨S0,a,⟨k,C,by rw[b],n,?_,?_,?_,?_,?_,?_,?_,?_⟩,?_,λx r hr z=>?_⟩
  ·rw[b];show(((S0.bt.own id o).1.put id 1 a).1).next=_;rw[u.2];exact hk.next
  ·rw[b];exact hk.tree
  ·rw[b];rfl
  ·rw[b];show(By.wr (S0.fr.bS.set a true).length S0.fr.dd a (S0.text q)).1=_;rw[dM]
  ·rw[b];rfl
  ·rw[b,<- hk.tree];rfl
  ·rw[b,<- hk.tree];rfl
  ·rw[b];exact hk.guards
  ·rw[b];exact u.1
  ·rw[n]at hr;split at hr;·rw[<- cU hr];show(1:Int)≠0;decide
   ·exact y.anon _ _ hr z
 ·right;refine⟨S0,t,k,?_⟩;rw[hb,k.eq];dsimp only;rw[bL bN]
def oF(h:Inv0 S){id g:Int}(hb:S.bt.pg id=none\/S.live g=false\/∃p,S.bt.pg id=some p/\p.place=0/\p.kf<0):S.cd id g=(S, -1,2):=by
 unfold Cs.cd;dsimp only;rw[bL];rcases hb with a|a|⟨p,hp,a⟩
 ·left;unfold TS.get;rw[a];decide
 ·exact .inr (.inl a)
 ·right;right;rw[h.bK hp];exact a
def w1(h:Inv0 S){id g:Int}{p:Pg}(hp:S.bt.pg id=some p)(h1:p.place=1)(hl:S.live g=true):S.cd id g=({S with bX:=(kp S.bX id).1}, -1,0):=by
 unfold Cs.cd;rw[h.bK hp];dsimp only;rw[bJ (by rintro(a|a|a);exact a rfl;rw[hl]at a;cases a;rw[h1]at a;cases a.1),bL h1]
def Inv.cd(h:Inv S)(id g:Int):Inv (S.cd id g).1:=by
 cases hp:S.bt.pg id with
 |none=>rw[oF h.toInv0 (.inl hp)];exact h
 |some p=>
  cases hl:S.live g with
  |false=>rw[oF h.toInv0 (.inr (.inl hl))];exact h
  |true=>
   by_cases b:p.place=0/\p.kf<0;·rw[oF h.toInv0 (.inr (.inr ⟨p,hp,b⟩))];exact h
   ·by_cases h1:p.place=1;·rw[w1 h.toInv0 hp h1 hl];exact h.cy id
    ·rcases sd h.toInv0 h.anon hp hl b h1 with⟨S0,a,k,c⟩|⟨S0,t,k,he⟩
     ·exact c
     ·rw[he];exact k.outs.inv h
def uv{T:TS}{id:Int}{p:Pg}(hp:T.pg id=some p)(hr:p.refs<=0)(a:p.place=0):T.drop id=({T with pg:=cL T.pg id none,files:=cL T.files (p.kf,p.ki) none},0):=by
 unfold TS.drop;rw[hp];dsimp only;rw[cF]
def mZ{κ α:Type}[DecidableEq κ]{f:κ->bW α}{k x:κ}{y:α}(h:cL f k none x=some y):x≠k/\f x=some y:=by
 unfold cL at h;split at h;·cases h
 ·next e=>exact⟨e,h⟩
def Inv0.lM(h:Inv0 S){id:Int}{p:Pg}(hp:S.bt.pg id=some p)(l:p.place=0):Inv0 {S with bt:={S.bt with pg:=cL S.bt.pg id none,files:=cL S.bt.files (p.kf,p.ki) none}} :=by
 have n:∀pl:Int,pl≠0->∀x,(cL S.bt.pg id none x=S.bt.pg x)\/((∀p,S.bt.pg x=some p->p.place≠pl)/\∀p,cL S.bt.pg id none x=some p->p.place≠pl)\/(∃p k,S.bt.pg x=some p/\cL S.bt.pg id none x=some k/\k.place=p.place/\k.at_=p.at_/\k.owner=p.owner):=by
  intro pl m x;by_cases hx:x=id
  ·subst hx;refine .inr (.inl ⟨λq b=>?_,λq b=>?_⟩);·rw[hp]at b;rw[<- cU b,l];exact m.symm
   ·rw[kv]at b;cases b
  ·exact .inl (dc _ _ hx)
 refine {h with cI:=⟨h.cI.next,λx q b=>h.cI.ids _ _ (mZ b).2,λpl a x=>?_,λkf ki x=>?_,λx q b=>h.cI.pl _ _ (mZ b).2⟩,own:=λx q b=>h.own _ _ (mZ b).2,fr:=h.fr.other rfl (n 1 bN),sl:=h.sl.other rfl (n 2 bN),gen:=λx g=>?_,kx:=λx q b=>h.kx _ _ (mZ b).2}
 ·show S.bt.c1 (pl,a)=some x↔∃q,cL S.bt.pg id none x=some q/\_;rw[h.cI.spot];constructor
  ·rintro⟨q,b,c,d,f⟩;have hx:x≠id:=by
    rintro rfl;rw[hp]at b;rw[<- cU b,l]at c;exact f c.symm
   exact⟨q,by rw[dc _ _ hx];exact b,c,d,f⟩
  ·rintro⟨q,b,e⟩;exact⟨q,(mZ b).2,e⟩
 ·show cL S.bt.files (p.kf,p.ki) none (kf,ki)=some x↔∃q,cL S.bt.pg id none x=some q/\_;constructor
  ·intro hx;obtain⟨i,hx⟩:=mZ hx;obtain⟨q,b,c,d,f⟩:=(h.cI.file kf ki x).1 hx;have j:x≠id:=by
    rintro rfl;rw[hp]at b;have:=cU b;subst this;exact i (by rw[c,d])
   exact⟨q,by rw[dc _ _ j];exact b,c,d,f⟩
  ·rintro⟨q,b,c,d,f⟩;obtain⟨j,b⟩:=mZ b;have hx:=(h.cI.file kf ki x).2 ⟨q,b,c,d,f⟩;have i:(kf,ki)≠(p.kf,p.ki):=by
    intro e;have e:kf=p.kf/\ki=p.ki:=by simpa using e
    have:=(h.cI.file kf ki id).2 ⟨p,hp,e.1.symm,e.2.symm,f⟩;rw[hx]at this;exact j (cU this)
   rw[dc _ _ i];exact hx
 ·show _↔∃q,cL S.bt.pg id none x=some q/\_;rw[h.gen];constructor
  ·rintro⟨q,b,c,d⟩;have hx:x≠id:=by
    rintro rfl;rw[hp]at b;rw[<- cU b,l]at c;cases c
   exact⟨q,by rw[dc _ _ hx];exact b,c,d⟩
  ·rintro⟨q,b,e⟩;exact⟨q,(mZ b).2,e⟩
def HJ(h:Inv0 S){k:Int×Int}(hk:0<=S.bt.of k):∃p,S.bt.pg (S.bt.of k)=some p/\(p.kf,p.ki)=k/\0<=p.kf:=by
 unfold TS.of at hk ⊢;cases hf:S.bt.files k with
 |none=>rw[hf]at hk;exact absurd hk bN
 |some x=>
  obtain⟨kf,ki⟩:=k;obtain⟨p,hp,a,b,c⟩:=(h.cI.file kf ki x).1 hf;exact⟨p,hp,by rw[a,b],by rw[a];exact c⟩
def uw{F:FS}{k:Int×Int}(h:ej F k=true):0<=k.1:=by
 unfold ej at h;rw[dA,gE,gE]at h;unfold np at h;split at h;·omega
 ·omega
def Inv.cN(h:Inv S)(hn:S.bt.next<16777216)(k:Int×Int)(g:Int):Inv (S.cN k g).1:=by
 unfold Cs.cN;dsimp only;split;·exact h
 ·next w=>
  have hl:S.live g=true:=by
   cases f:S.live g with
   |true=>rfl
   |false=>exact absurd (.inr f) w
  have hf:ej S.files k=true:=by
   cases f:ej S.files k with
   |true=>rfl
   |false=>exact absurd (.inl f) w
  by_cases hm:S.bt.of k<0
  ·rw[dE hm];simp only[gQ];obtain⟨kf,ki⟩:=k;have j:=uw hf;have l:=pv S.bt (kf:=kf) (ki:=ki) (o:=g) ⟨h.cI.next,hn⟩ (.inr hm);rw[show(S.bt.make kf ki g).2.1=S.bt.next by rw[l.1]];have u:=h.toInv0.make hn (kf:=kf) (ki:=ki) hl (.inr ⟨hm,hf⟩);have i:gJ S.bt kf ki=(kf,ki):=by unfold gJ;rw[bJ (by have:0<=kf:=j;omega)]
   have hp:(S.bt.make kf ki g).1.pg S.bt.next=some ⟨kf,ki,0,0,g,0,0,false,false⟩:=by rw[l.2.2,bL rfl,i]
   have d:∀x p,(S.bt.make kf ki g).1.pg x=some p->p.kf<0->p.place≠0:=by
    intro x q c m;rw[l.2.2]at c;split at c
    ·rw[<- cU c,i]at m;have:kf<0:=m;have:0<=kf:=j;omega
    ·exact h.anon _ _ c m
   rcases sd u d (id:=S.bt.next) (g:=g) hp hl (λe=>by have h1:kf<0:=e.2;have:0<=kf:=j;omega) (by show(0:Int)≠1;decide)with⟨S0,a,b,n⟩|⟨S0,t,b,he⟩
   ·rw[b.A4];dsimp only;rw[bL rfl];exact n
   ·rw[he];dsimp only;rw[bJ bN];have v:Inv {S with bt:=(S.bt.make kf ki g).1} :=⟨u,d⟩
    have n:=b.outs.inv v;obtain⟨q,c,_,_,_,_,s⟩:=(b.outs.kept v).bK S.bt.next _ hp;have s:=s (by show(0:Int)≠1;decide);subst s;rw[uv c (g3 _) rfl];exact⟨n.toInv0.lM c rfl,λx r hr=>n.anon _ _ (mZ hr).2⟩
  ·rw[di hm];simp only[l2,gP];have:=h.cd (S.bt.of k) g;split<;>exact this
def Inv.get(h:Inv S)(id a:Int):Inv (S.get id a).1:=by
 unfold Cs.get;dsimp only;split;·exact h
 ·dsimp only;split;·exact h.cy id
  ·exact h
def Inv.put(h:Inv S)(id a:Int)(b:UInt8):Inv (S.put id a b).1:=by
 unfold Cs.put;dsimp only;split;·exact h
 ·split
  ·have h1:Inv {S with fr:={S.fr with dd:=(By.pt S.fr.bS.length S.fr.dd (S.here id).1 a b).1}} :=
    ⟨{h.toInv0 with fr:={h.fr with len:=By.UJ h.fr.len _ _}},h.anon⟩
   exact((h1.cy id).mark id true)
  ·exact h
def A5{T:TS}{id n:Int}{p:Pg}(hp:T.pg id=some p):T.bO id n=if n< -1000\/1000<n\/i64.wrap (p.refs+n)<0 then(T,0,1)else(T.cK id {p with refs:=i64.wrap (p.refs+n)},i64.wrap (p.refs+n),0):=by
 unfold TS.bO;rw[hp]
def oG(h:Inv S)(id n:Int):(S.bt.pg id=none/\S.bO id n=(S,2))\/∃p,S.bt.pg id=some p/\
    (((n< -1000\/1000<n\/i64.wrap (p.refs+n)<0)/\S.bO id n=(S,1))\/
     (0<i64.wrap (p.refs+n)/\(-1000<=n/\n<=1000)/\S.bO id n=({S with bt:=S.bt.cK id {p with refs:=i64.wrap (p.refs+n)}},0))\/
     (i64.wrap (p.refs+n)=0/\(-1000<=n/\n<=1000)/\(S.bO id n).2=0/\Inv (S.bO id n).1/\(S.bO id n).1.bt.next=S.bt.next/\(∀x,(S.bO id n).1.bt.pg x=if x=id then none else S.bt.pg x)/\(S.bO id n).1.tree=S.tree/\(S.bO id n).1.guards=S.guards/\
       (S.bO id n).1.fr=(if p.place=1 then S.fr.dv p.at_ (dp S.tree p.owner)else S.fr)/\(S.bO id n).1.sl=(if p.place=2 then S.sl.dv p.at_ (dp S.tree p.owner)else S.sl)/\
       (S.bO id n).1.files.bY=S.files.bY/\(p.kf<0->(S.bO id n).1.files=S.files))):=by
  cases hp:S.bt.pg id with
  |none=>
    refine .inl ⟨rfl,?_⟩;unfold Cs.bO TS.bO;rw[hp];rfl
  |some p=>
    refine .inr ⟨p,rfl,?_⟩;by_cases hb:n< -1000\/1000<n\/i64.wrap (p.refs+n)<0
    · refine .inl ⟨hb,?_⟩
      unfold Cs.bO;rw[A5 hp,bL hb];rfl
    · by_cases P:0<i64.wrap (p.refs+n)
      · refine .inr (.inl ⟨P,bu,?_⟩)
        unfold Cs.bO;rw[A5 hp,bJ hb];dsimp only;rw[bL (.inr P)]
      · refine .inr (.inr ⟨bu,bu,?_⟩)
        have V:i64.wrap (p.refs+n)=0:=by omega
        have h1:Inv {S with bt:=S.bt.cK id {p with refs:=0}} :=h.cK hp rfl rfl rfl rfl (g3 _) rfl;have c:(S.bt.cK id {p with refs:=0}).pg id=some {p with refs:=0} :=kv _ _ _;have i:∀x,x≠id->(S.bt.cK id {p with refs:=0}).pg x=S.bt.pg x:=λx hx=>dc _ _ hx;have Q:=(h.cI.pl _ _ hp).1;have hr:S.bO id n=(let a:Cs:={S with bt:=S.bt.cK id {p with refs:=0}}
          let N:=a.chain p.owner;let J:=if p.place=1 then
              let b:=a.clean id {p with refs:=0}
              {b with fr:=b.fr.dv p.at_ N,bX:=(jj b.bX id).1}
            else if p.place=2 then {a with sl:=a.sl.dv p.at_ N} else a
          let d:=(J.bt.put id 0 0).1.drop id
          ({J with bt:=d.1},d.2)):=by
          unfold Cs.bO;rw[A5 hp,bJ hb,V];dsimp only;rw[cF];have:=h1.bK c;dsimp only at this;rw[this]
        generalize g:({S with bt:=S.bt.cK id {p with refs:=0}} :Cs)=a at*
        have l:a.tree=S.tree:=by subst g;rfl
        have v:a.fr=S.fr:=by subst g;rfl
        have C:a.sl=S.sl:=by subst g;rfl
        have D:a.guards=S.guards:=by subst g;rfl
        have m:a.files=S.files:=by subst g;rfl
        have O:a.bt=S.bt.cK id {p with refs:=0} :=by subst g;rfl
        rw[<- O]at c i;have E:a.bt.next=S.bt.next:=by rw[O];rfl
        clear g;rw[hr];dsimp only;by_cases hf:p.place=1
        · rw[bL hf,bL hf,bJ (by rw[hf];decide)]
          obtain⟨q,R,ab,q2,ai,aj,ad,ae⟩:=A1 (S:=a) id {p with refs:=0} _ c;have k:=h1.clean id {p with refs:=0};obtain⟨L,M,Y,af,ag,ah,Z⟩:=wX (S:=a) id {p with refs:=0};have B:=HF (S:=a) c hf {p with refs:=0};have G:p.kf<0->(a.clean id {p with refs:=0}).files=a.files:=by
            intro hk;unfold Cs.clean;rw[bJ (λaa=>by have:0<=p.kf:=aa.1;omega)]
          have z:∀x,x≠id->(a.clean id {p with refs:=0}).bt.pg x=a.bt.pg x:=by
            intro x hx;unfold Cs.clean;split
            · show(a.bt.mark id false).1.pg x=_
              rw[(q4 _ _ _).2.2.2];cases a.bt.pg x<;>simp[hx]
            · rfl
          generalize a.clean id {p with refs:=0} =b at*
          have F:=k.toInv0.lK R (by rw[ab];exact hf) (lg:=b.log) k.log (K:=b.kept);have H:=k.toInv0.nx R;dsimp only;rw[H];have f:(b.bt.dQ id q 0 0).pg id=some (q.to 0 0):=by rw[jy,bL rfl]
          rw[uv f (by show q.refs<=0;rw[ae];exact g3 _) rfl];have o:=F.lM f rfl;have w:b.fr.dv q.at_ (dp b.tree q.owner)=S.fr.dv p.at_ (dp S.tree p.owner):=by rw[M,v,L,l,q2,ad]
          have t:b.fr.dv p.at_ (a.chain p.owner)=S.fr.dv p.at_ (dp S.tree p.owner):=by rw[M,v];unfold Cs.chain;rw[l]
          rw[w]at o;rw[t];refine⟨rfl,⟨o,λx r hr hk=>?_⟩,?_,λx=>?_,?_,?_,rfl,?_,?_,λhk=>?_⟩
          · obtain⟨hx,hr⟩:=mZ hr
            rw[jy,bJ hx]at hr;exact k.anon _ _ hr hk
          · show b.bt.next=_
            rw[B.next,E]
          · show cL (b.bt.dQ id q 0 0).pg id none x=_
            by_cases hx:x=id;· subst hx;rw[kv,bL rfl]
            · rw[dc _ _ hx,bJ hx,jy,bJ hx,z x hx,i x hx]
          · show b.tree=_;rw[L,l]
          · show b.guards=_;rw[Z,D]
          · show b.sl=_;rw[Y,C]
          · show b.files.bY=_;rw[B.bY,m]
          · show b.files=_;rw[G hk,m]
        · rw[bJ hf,bJ hf]
          by_cases u:p.place=2
          · rw[bL u,bL u]
            have F:=h1.toInv0.q1 c u;dsimp only;rw[h1.toInv0.nx c];have f:(a.bt.dQ id {p with refs:=0} 0 0).pg id=some (Pg.to {p with refs:=0} 0 0):=by rw[jy,bL rfl]
            rw[uv f (g3 _) rfl];have o:=F.lM f rfl;refine⟨rfl,⟨o,λx r hr hk=>?_⟩,E,λx=>?_,l,D,v,?_,by rw[m],λ_=>m⟩
            · obtain⟨hx,hr⟩:=mZ hr
              rw[jy,bJ hx]at hr;exact h1.anon _ _ hr hk
            · show cL (a.bt.dQ id _ 0 0).pg id none x=_
              by_cases hx:x=id;· subst hx;rw[kv,bL rfl]
              · rw[dc _ _ hx,bJ hx,jy,bJ hx,i x hx]
            · show a.sl.dv p.at_ (a.chain p.owner)=_
              rw[C];unfold Cs.chain;rw[l]
          · rw[bJ u,bJ u]
            have j:p.place=0:=by omega
            rw[h1.toInv0.nx c];have f:(a.bt.dQ id {p with refs:=0} 0 0).pg id=some (Pg.to {p with refs:=0} 0 0):=by rw[jy,bL rfl]
            rw[uv f (g3 _) rfl];have A:a.bt.dQ id {p with refs:=0} 0 0=a.bt:=by
              have s:p.at_=0:=Q.2.2.2 j;have U:Pg.to {p with refs:=0} 0 0= {p with refs:=0} :=by
                show({p with refs:=0,place:=0,at_:=0} :Pg)= {p with refs:=0}
                cases p;simp only at j s;subst j s;rfl
              have I:a.bt.c1 (p.place,p.at_)=none:=by
                rw[j,s];cases T:a.bt.c1 (0,0)with
                |none=>rfl
                |some y=>
                  obtain⟨_,_,_,_,e⟩:=(h1.cI.spot 0 0 y).1 T;exact absurd rfl e
              unfold TS.dQ;rw[U,bJ bN];have W:cL a.bt.pg id (some {p with refs:=0})=a.bt.pg:=by
                funext x;unfold cL;split;· next e=>rw[e,c]
                · rfl
              have X:cL a.bt.c1 (({p with refs:=0} :Pg).place,({p with refs:=0} :Pg).at_) none=a.bt.c1:=by
                funext x;unfold cL;split;· next e=>rw[e];exact I.symm
                · rfl
              rw[W,X]
            rw[A]at f ⊢;have o:=h1.toInv0.lM c j;refine⟨rfl,⟨o,λx r hr hk=>h1.anon _ _ (mZ hr).2 hk⟩,E,λx=>?_,l,D,v,C,by rw[m],λ_=>m⟩;show cL a.bt.pg id none x=_;by_cases hx:x=id;· subst hx;rw[kv,bL rfl]
            · rw[dc _ _ hx,bJ hx,i x hx]
def Inv.bO(h:Inv S)(id n:Int):Inv (S.bO id n).1:=by
 rcases oG h id n with⟨_,he⟩|⟨p,hp,⟨_,he⟩|⟨b,_,he⟩|⟨_,_,_,a,_⟩⟩
 ·rw[he];exact h
 ·rw[he];exact h
 ·rw[he];exact h.cK hp rfl rfl rfl rfl (by show 0<=i64.wrap (p.refs+n);omega) rfl
 ·exact a
end Go.Kc
namespace Go.Kt
def HK{l l':bA G}:∀(g:Nat),(∀i,i<=g->((l'[i]?).map G.up)=((l[i]?).map G.up))->chain l' g=chain l g:=by
 intro g;induction g using Nat.strongRecOn with
 |_ g a=>
  intro h;rw[chain.eq_def l' g,chain.eq_def l g,h g (ep _)];split;·next b=>rw[a _ bu (λi c=>h i bu)]
  ·rfl
def HL{l:bA G}{n:Nat}:dt l n=((l[n]?).map G.live).getD false:=by
 unfold dt;rw[dE bu,dz];cases l[n]? <;>rfl
def HM{l:bA G}{g:Int}(h:g<0):dt l g=false:=by
 unfold dt;rw[di bu];rfl
def HN{l:bA G}{x:G}{g:Int}(h:dt l g=true):dt (l++[x]) g=true:=by
 obtain⟨n,rfl,y,b,hl⟩:=iR.1 h;have a:=(c4.1 b).1;exact iR.2 ⟨n,rfl,y,by rw[eN a];exact b,hl⟩
def U3{l:bA G}{x:G}{g:Int}(h:dt l g=true):dp (l++[x]) g=dp l g:=by
 unfold dp;rw[bL h,bL (HN h)];obtain⟨n,rfl,y,a,hl⟩:=iR.1 h;have b:=(c4.1 a).1;rw[dz,HK (l:=l) (l':=l++[x]) n (λi c=>by rw[eN bu])]
def U4{l:bA G}{p:Int}(h:(gi l p).2.2=0):dt l p=true/\l.length<64/\gi l p=(l++[⟨p,true⟩],(l.length:Int),0):=by
 unfold gi at h ⊢;split at h;·cases h
 next h1=>
 rw[bJ h1];split at h;·cases h
 next h2=>
 rw[bJ h2];split at h;·cases h
 next a=>
 rw[bJ a];exact⟨by simpa using h1,bu,rfl⟩
def U5{l:bA G}{g:Int}(h:(iT l g).2=0):∃n:Nat,g=n/\0<n/\∃x,l[n]?=some x/\x.live=true/\kg l g= []/\iT l g=(l.set n ⟨x.up,false⟩,0):=by
 unfold iT at h ⊢;split at h;·cases h
 next h1=>
 rw[bJ h1];split at h;·cases h
 next h2=>
 rw[bJ h2];split at h;·cases h
 next a=>
 rw[bJ a];obtain⟨n,rfl,x,hx,hl⟩:=iR.1 (show dt l g=true by simpa using h2);refine⟨n,rfl,bu,x,hx,hl,by simpa using a,?_⟩;rw[dz,hx];rfl
variable{l:bA G}{n:Nat}{x:G}
def HO(hx:l[n]?=some x)(g:Int):dt (l.set n ⟨x.up,false⟩) g=(dt l g&& !(g==(n:Int))):=by
 have a:=(c4.1 hx).1;rcases Int.lt_or_le g 0 with h|h;·rw[HM h,HM h];rfl
 ·obtain⟨m,rfl⟩:∃m:Nat,g=m:=⟨g.toNat,bu⟩
  rw[HL,HL];by_cases e:n=m
  ·subst e;rw[iZ a,hx];simp
  ·rw[ja e];have:((m:Int)==(n:Int))=false:=by simp;omega
   rw[this];simp
def U6(hx:l[n]?=some x)(g:Nat):chain (l.set n ⟨x.up,false⟩) g=chain l g:=by
 have a:=(c4.1 hx).1;refine HK g (λi _=>?_);by_cases e:n=i;·subst e;rw[iZ a,hx];rfl
 ·rw[ja e]
def HP(hx:l[n]?=some x){g:Int}(hl:dt l g=true)(a:g≠n):dp (l.set n ⟨x.up,false⟩) g=dp l g:=by
 unfold dp;rw[HO hx,hl,bL rfl,bL (by simpa using a),U6 hx]
def A6{g:Nat}(hl:dt l g=true):dp l g=(chain l g).map Int.ofNat:=by unfold dp;rw[bL hl,dz]
def U7(hw:WF l)(hk:kg l n= [])(hn:dt l n=true):∀(g:Nat),dt l g=true->g≠n->n∉chain l g:=by
 intro g;induction g using Nat.strongRecOn with
 |_ g k=>
  intro hl d hm;obtain⟨a,e,y,b,h⟩:=iR.1 hl;have e:a=g:=by omega
  subst e;rcases kZ a with c|c;·subst c;rw[tK,h8]at hm;exact d hm.symm
  ·have hu:=hw.up a y b c;rw[rN hw b c]at hm;rcases ey.1 hm with e|hm;·exact d e.symm
   ·by_cases e:y.up.toNat=n
    ·have f:=(c4.1 b).1;have:(a:Int)∈kg l n:=by
      unfold kg nP;rw[bL hn];refine fo.2 ⟨a,gq.2 ⟨fV.2 f,?_⟩,rfl⟩;rw[dA];refine⟨hl,?_⟩;show(((l[a]?).map G.up).getD (-1)==(n:Int))=true;rw[b];simp only[gh,mH,p4];omega
     rw[hk]at this;cases this
    ·obtain⟨z,i⟩:∃z,l[y.up.toNat]?=some z:=⟨_,dL (by have:=(c4.1 b).1;omega)⟩
     have j:=hw.live a y z b c h i;exact k _ bu (iR.2 ⟨_,rfl,z,i,j⟩) e hm
end Go.Kt
namespace Go.Kc
open Go Go.Kt Go.Sp
variable{S:Cs}
def ix.tree{T:TS}{tree a:bA G}{s:fa}{pl:Int}(h:ix T tree s pl)(d:∀x p,T.pg x=some p->dp a p.owner=dp tree p.owner):ix T a s pl:=by
 refine⟨h.e8,h.len,h.used,h.taken,λg c b=>?_,h.all⟩;rw[h.use g c b];congr 1;refine(uq rfl (λx=>?_)).symm;cases hp:T.pg x with
 |none=>rfl
 |some p=>unfold pB below;dsimp only;rw[d x p hp]
def Inv.cp(h:Inv S)(p:Int):Inv (S.cp p).1:=by
 unfold Cs.cp;dsimp only;split
 ·next c=>
  obtain⟨hl,d,he⟩:=U4 c;have hw:=Tw h.wf p;rw[he]at hw ⊢;dsimp only at hw ⊢;have b:∀x q,S.bt.pg x=some q->dp (S.tree++[⟨p,true⟩]) q.owner=dp S.tree q.owner:=λx q a=>U3 (h.own _ _ a);exact {h with wf:=hw,gl:=by show(S.guards++[_]).length=(S.tree++[_]).length;rw[dg,dg,h.gl];rfl,own:=λx q a=>HN (h.own _ _ a),fr:=h.fr.tree b,sl:=h.sl.tree b}
 ·exact h
def Inv.oH(h:Inv S){l:bA eE}(hl:l.length=S.guards.length):Inv {S with guards:=l} :={h with gl:=by show l.length=_;rw[hl];exact h.gl}
def Inv.cC(h:Inv S)(g what n:Int):Inv (S.cC g what n).1:=by
 have b:∀x,Inv (S.ig g x):=λx=>h.oH (by simp);have c:∀ {T:TS} {tree:bA G} {s:fa} {pl:Int},ix T tree s pl->ix T tree {s with used:=(j4 s.used g n).1} pl:=by
  intro T tree s pl a;exact⟨a.e8,a.len,a.used.ku g n,a.taken,λx hx d=>by rw[<- a.use x hx d];exact UO a.used.len g n x,a.all⟩
 unfold Cs.cC;split;·exact h
 split;·exact h
 split;·exact b _
 split;·exact b _
 split;·exact {h with fr:=c h.fr}
 split;·exact {h with sl:=c h.sl}
 split
 ·split;·exact h
  ·exact b _
 ·exact h
def HQ(T:TS)(id o:Int):(T.own id o).1.next=T.next/\(T.own id o).1.files=T.files/\(T.own id o).1.c1=T.c1/\∀x,(T.own id o).1.pg x=(T.pg x).map λp=>if x=id then {p with owner:=o} else p:=by
 unfold TS.own;cases hp:T.pg id with
 |none=>
  refine⟨rfl,rfl,rfl,λx=>?_⟩;by_cases e:x=id;·subst e;simp[hp]
  ·cases T.pg x<;>simp[e]
 |some p=>
  refine⟨rfl,rfl,rfl,λx=>?_⟩;show cL T.pg id (some _) x=_;by_cases e:x=id;·subst e;rw[kv,hp];simp
  ·rw[dc _ _ e];cases T.pg x<;>simp[e]
def q5(o:Int):∀(ids:bR) (T:TS),(T.dx ids o).next=T.next/\(T.dx ids o).files=T.files/\(T.dx ids o).c1=T.c1/\∀x,(T.dx ids o).pg x=(T.pg x).map λp=>if x∈ids then {p with owner:=o} else p
 |[],T=>⟨rfl,rfl,rfl,λx=>by show T.pg x=_;cases T.pg x<;>simp⟩
 |id::ids,T=>by
  obtain⟨c,d,a3,a4⟩:=HQ T id o;obtain⟨b1,b2,b3,b4⟩:=q5 o ids (T.own id o).1;refine⟨b1.trans c,b2.trans d,b3.trans a3,λx=>(b4 x).trans ?_⟩;rw[a4];cases T.pg x with
  |none=>rfl
  |some p=>
   simp only[gh,fU,ey];by_cases a:x=id;·by_cases b:x∈ids<;>simp[a]
   ·by_cases b:x∈ids<;>simp[a,b]
def A7{T:TS}(a:hA T){g x:Int}:x∈T.et g↔∃p,T.pg x=some p/\p.owner=g:=by
 unfold TS.et;rw[fo];constructor
 ·rintro⟨n,hn,rfl⟩;rw[gq]at hn;obtain⟨_,hn⟩:=hn;show ∃p,T.pg (n:Int)=some p/\_;cases hp:T.pg (n:Int)with
  |none=>rw[hp]at hn;cases hn
  |some p=>rw[hp]at hn;exact⟨p,rfl,by simpa using hn⟩
 ·rintro⟨p,hp,ho⟩;have:=a.ids _ _ hp;refine⟨x.toNat,gq.2 ⟨fV.2 bu,?_⟩,by show((x.toNat:Nat):Int)=x;omega⟩;have e:((x.toNat:Nat):Int)=x:=by omega
  rw[e,hp];simpa using ho
def w3{T:TS}(a:hA T)(g o x:Int):(T.dx (T.et g) o).pg x=(T.pg x).map λp=>if p.owner=g then {p with owner:=o} else p:=by
 rw[(q5 o _ T).2.2.2 x];cases hp:T.pg x with
 |none=>rfl
 |some p=>
  simp only[gh,fU];by_cases e:p.owner=g;·rw[bL e,bL ((A7 a).2 ⟨p,hp,e⟩)]
  ·rw[bJ e,bJ (λhm=>by
    obtain⟨q,b,c⟩:=(A7 a).1 hm;rw[hp]at b;exact e (by rw[cU b];exact c))]
def hA.ux{T:TS}(f:hA T)(g o:Int):hA (T.dx (T.et g) o):=by
 have h:=w3 f g o;obtain⟨h1,h2,i,_⟩:=q5 o (T.et g) T;generalize T.dx (T.et g) o=T' at*
 have hf:∀ {x q},T'.pg x=some q->∃p,T.pg x=some p/\q.place=p.place/\q.at_=p.at_/\q.kf=p.kf/\q.ki=p.ki/\q.refs=p.refs:=by
  intro x q b;rw[h]at b;cases hp:T.pg x with
  |none=>rw[hp]at b;cases b
  |some p=>
   rw[hp]at b;have:=cU b;subst this;refine⟨p,rfl,?_,?_,?_,?_,?_⟩<;>(dsimp only;split<;>rfl)
 have hb:∀ {x p},T.pg x=some p->∃q,T'.pg x=some q/\q.place=p.place/\q.at_=p.at_/\q.kf=p.kf/\q.ki=p.ki:=by
  intro x p hp;rw[h,hp];refine⟨_,rfl,?_,?_,?_,?_⟩<;>(dsimp only;split<;>rfl)
 refine⟨by rw[h1];exact f.next,λx q b=>?_,λpl a x=>?_,λkf ki x=>?_,λx q b=>?_⟩
 ·obtain⟨p,hp,_⟩:=hf b;rw[h1];exact f.ids _ _ hp
 ·rw[i,f.spot];constructor
  ·rintro⟨p,hp,c,d,e⟩;obtain⟨q,b,f1,f2,_⟩:=hb hp;exact⟨q,b,by rw[f1,c],by rw[f2,d],e⟩
  ·rintro⟨q,b,c,d,e⟩;obtain⟨p,hp,f1,f2,_⟩:=hf b;exact⟨p,hp,by rw[<- f1,c],by rw[<- f2,d],e⟩
 ·rw[h2,f.file];constructor
  ·rintro⟨p,hp,c,d,e⟩;obtain⟨q,b,_,_,f1,f2⟩:=hb hp;exact⟨q,b,by rw[f1,c],by rw[f2,d],e⟩
  ·rintro⟨q,b,c,d,e⟩;obtain⟨p,hp,_,_,f1,f2,_⟩:=hf b;exact⟨p,hp,by rw[<- f1,c],by rw[<- f2,d],e⟩
 ·obtain⟨p,hp,f1,f2,_,_,f5⟩:=hf b;have:=f.pl _ _ hp;rw[f1,f2,f5];exact this
def U8{C:bA eO}(b:hv C){g:Int}(c:0<=g/\g<64)(x:Int):cW (gk C [g] (cW C g)).1 x=if x=g then 0 else cW C x:=by
 have ho:=(b.of g).1;have hr:jh [g] (cW C g)=true:=mY.2 ⟨λy a=>by rw[h8]at a;subst a;exact c,by simp,ho⟩;rw[r9 hr (λy a=>by rw[h8]at a;subst a;exact g3 _)];show cW (dF C [g] (-(cW C g))) x=_;rw[pn b.len (λy a=>by rw[h8]at a;subst a;exact c) (by simp)];by_cases e:x=g;·subst e;simp;omega
 ·simp[e]
def ix.gone{T:TS}(I:hA T){tree:bA G}(hw:WF tree){s:fa}{pl:Int}(h:ix T tree s pl)(j:∀x p,T.pg x=some p->dt tree p.owner=true){n:Nat}{x:G}(v:0<n)(hx:tree[n]?=some x)(hl:x.live=true)(hk:kg tree n= []):
  ix (T.dx (T.et n) x.up) (tree.set n ⟨x.up,false⟩) {s with used:=(gk s.used [(n:Int)] (cW s.used n)).1} pl:=by
 have K:=(c4.1 hx).1;have J:=hw.e8;have hn:dt tree n=true:=iR.2 ⟨n,rfl,x,hx,hl⟩;have hu:=hw.up n x hx v;obtain⟨z,F⟩:∃z,tree[x.up.toNat]?=some z:=⟨_,dN⟩
 have H:=hw.live n x z hx v hl F;have u:((x.up.toNat:Nat):Int)=x.up:=by omega
 have t:dt tree x.up=true:=by rw[<- u];exact iR.2 ⟨_,rfl,z,F,H⟩
 have w:x.up≠(n:Int):=by omega
 have f:=w3 I n x.up;have r:=(q5 x.up (T.et n) T).1;generalize T.dx (T.et n) x.up=T' at*
 have o:dp tree n=(n:Int)::dp tree x.up:=by
  rw[A6 hn,rN hw hx v];rw[show dp tree x.up=dp tree ((x.up.toNat:Nat):Int) by rw[u],A6 (by rw[u];exact t)];rfl
 have D:(n:Int)∉dp tree x.up:=by
  have:=(qT hw hn).2.1;rw[o,rJ]at this;exact this.1
 have key:∀(y:Int) (g:Int),pB (T'.pg y) pl (below (tree.set n ⟨x.up,false⟩) g)=(pB (T.pg y) pl (below tree g)&& !(g==(n:Int))):=by
  intro y g;rw[f];cases hp:T.pg y with
  |none=>rfl
  |some p=>
   simp only[gh];unfold pB below;dsimp only;by_cases e:p.owner=(n:Int)
   ·rw[bL e];dsimp only;rw[HP hx t w,e,o];by_cases c:g=(n:Int)
    ·subst c;have:(dp tree x.up).contains (n:Int)=false:=by simpa using D
     rw[this];simp
    ·have:(g==(n:Int))=false:=by simpa using c
     rw[List.contains_cons,this];simp
   ·rw[bJ e,HP hx (j _ _ hp) e];by_cases c:g=(n:Int)
    ·subst c;have:(dp tree p.owner).contains (n:Int)=false:=by
      have d:=j _ _ hp;obtain⟨m,hm,_⟩:=iR.1 d;rw[hm]at d ⊢;have:=U7 hw hk hn m d (λb=>e (by rw[hm,b]));rw[A6 d];simp only[List.contains_eq_mem,FQ,fo,not_exists,not_and];intro y E b;have b:(y:Int)=(n:Int):=b;rw[show y=n by omega]at E;exact this E
     rw[this];simp
    ·have:(g==(n:Int))=false:=by simpa using c
     rw[this];simp
 have A:∀(y:Int),pB (T'.pg y) pl (λ_=>true)=pB (T.pg y) pl (λ_=>true):=by
  intro y;rw[f];cases hp:T.pg y with
  |none=>rfl
  |some p=>simp only[gh];unfold pB;dsimp only;split<;>rfl
 refine⟨h.e8,h.len,h.used.dv _ _,λa=>?_,λg c B=>?_,by rw[h.all];exact(uq r A).symm⟩
 ·rw[h.taken a];constructor
  ·rintro⟨y,p,hp,l,b⟩;refine⟨y,(if p.owner=(n:Int)then {p with owner:=x.up} else p),by rw[f,hp];rfl,?_,?_⟩
   ·split;·exact l
    ·exact l
   ·split;·exact b
    ·exact b
  ·rintro⟨y,q,k,l,b⟩;rw[f]at k;cases hp:T.pg y with
   |none=>rw[hp]at k;cases k
   |some p=>
    rw[hp]at k;have:=cU k;subst this;refine⟨y,p,hp,?_,?_⟩;·rw[<- l];dsimp only;split<;>rfl
    ·rw[<- b];dsimp only;split<;>rfl
 ·show cW (gk s.used [(n:Int)] (cW s.used n)).1 g=_;rw[U8 h.used ⟨bu,bu⟩];by_cases e:g=(n:Int)
  ·rw[bL e];have:iJ T' pl (below (tree.set n ⟨x.up,false⟩) g)=0:=by
    unfold iJ;refine UM.2 (λi L=>?_);have:=key (i:Int) g;rw[e]at this ⊢;simp only[tB,Bool.not_true,rL]at this;exact this
   rw[this];rfl
  ·rw[bJ e,h.use g c B];have C:(g==(n:Int))=false:=by simpa using e
   congr 1;refine(uq r (λy=>?_)).symm;rw[key,C];simp
def U9{R:bA dy}{f t:Int}(d:0<=t/\t<=16777216){x o:Int}:(∃e∈(mU R f t).1,e.id=x/\e.group=o)↔∃e∈R,e.id=x/\(if e.group=f then t else e.group)=o:=by
 unfold mU;rw[cF];have c:∀e:dy,(jJ f (λ_ a=>(t,a)) e).group=if e.group=f then t else e.group:=λe=>by unfold jJ;split<;>rfl
 constructor
 ·rintro⟨e,he,rfl,rfl⟩;obtain⟨y,b,rfl⟩:=fo.1 he;exact⟨y,b,(r6 _ _ y).symm,(c y).symm⟩
 ·rintro⟨y,b,rfl,rfl⟩;exact⟨_,fo.2 ⟨y,b,rfl⟩,r6 _ _ y,c y⟩
def Inv.remove(h:Inv S)(g:Int):Inv (S.remove g).1:=by
 unfold Cs.remove;dsimp only;split
 ·next t=>
  obtain⟨n,rfl,hn,x,hx,b,hk,he⟩:=U5 t;have hw:=Tx h.wf (n:Int);rw[he]at hw ⊢;dsimp only at hw ⊢;have w:=(c4.1 hx).1;have u:=h.wf.e8;have j:dt S.tree n=true:=iR.2 ⟨n,rfl,x,hx,b⟩;have l:o9 S.tree n=x.up:=by unfold o9;rw[bL j,dz,hx];rfl
  rw[l];have hu:=h.wf.up n x hx hn;obtain⟨z,m⟩:∃z,S.tree[x.up.toNat]?=some z:=⟨_,dN⟩
  have r:=h.wf.live n x z hx hn b m;have s:((x.up.toNat:Nat):Int)=x.up:=by omega
  have k:dt S.tree x.up=true:=by rw[<- s];exact iR.2 ⟨_,rfl,z,m,r⟩
  have d:=w3 h.cI n x.up;have hf:∀ {y q},(S.bt.dx (S.bt.et n) x.up).pg y=some q->∃p,S.bt.pg y=some p/\q=if p.owner=(n:Int)then {p with owner:=x.up} else p:=by
   intro y q a;rw[d]at a;cases hp:S.bt.pg y with
   |none=>rw[hp]at a;cases a
   |some p=>rw[hp]at a;exact⟨p,rfl,(cU a).symm⟩
  refine⟨⟨hw,by show S.guards.length=(S.tree.set n _).length;rw[dM];exact h.gl,h.cI.ux n x.up,λy q a=>?_,h.fr.gone h.cI h.wf h.own hn hx b hk,h.sl.gone h.cI h.wf h.own hn hx b hk,h.eu.move _ _,λy o=>?_,h.log,λy q a=>?_,h.q0,?_⟩,λy q a hk=>?_⟩
  ·obtain⟨p,hp,rfl⟩:=hf a;show dt (S.tree.set n ⟨x.up,false⟩) _=true;rw[HO hx];split
   ·dsimp only;rw[k];simp;omega
   ·next e=>
    rw[show dt S.tree p.owner=true from h.own _ _ hp];simpa using e
  ·show(∃e∈(mU S.bX n x.up).1,_)↔∃q,(S.bt.dx (S.bt.et n) x.up).pg y=some q/\_;rw[U9 ⟨hu.1,bu⟩];constructor
   ·rintro⟨e,he,f,i⟩;obtain⟨p,hp,c,p2⟩:=(h.gen y e.group).1 ⟨e,he,f,rfl⟩;refine⟨_,by rw[d,hp];rfl,?_,?_⟩
    ·dsimp only;split;·exact c
     ·exact c
    ·dsimp only;rw[p2,<- i];split;·rfl
     ·exact p2
   ·rintro⟨q,a,v,q2⟩;obtain⟨p,hp,rfl⟩:=hf a;have c:p.place=1:=by rw[<- v];split<;>rfl
    obtain⟨e,he,f,i⟩:=(h.gen y p.owner).2 ⟨p,hp,c,rfl⟩;refine⟨e,he,f,?_⟩;rw[i,<- q2];split<;>rfl
  ·obtain⟨p,hp,rfl⟩:=hf a;have:=h.kx _ _ hp;split;·exact this
   ·exact this
  ·show(S.bt.dx (S.bt.et n) x.up).next<=_;rw[(q5 x.up _ _).1];exact h.ids
  ·obtain⟨p,hp,rfl⟩:=hf a;have:=h.anon _ _ hp;revert hk;split;·exact this
   ·exact this
 ·exact h
end Go.Kc
namespace Go.Kc
open Go Go.Kt Go.Sp
structure Act where
 k:Int
 a:Int
 b:Int
 c:Int
 kf:Int
 ki:Int
def Cs.act(S:Cs)(x:Act):Cs×Int×Int×Int:=
 let k:=x.k.tmod 12
 if k=0 then let r:=S.cp x.a;(r.1,r.2.1,0,r.2.2)
 else if k=1 then let r:=S.remove x.a;(r.1,0,0,r.2)
 else if k=2 then let r:=S.cC x.a x.b x.c;(r.1,0,0,r.2)
 else if k=3 then S.fresh x.a
 else if k=4 then S.cN (x.kf,x.ki) x.a
 else if k=5 then let r:=S.cd x.b x.a;(r.1,r.2.1,0,r.2.2)
 else if k=6 then S.copy x.b x.a
 else if k=7 then let r:=S.put x.b x.a (mg x.c);(r.1,0,0,r.2)
 else if k=8 then let r:=S.get x.b x.a;(r.1,r.2.1,0,r.2.2)
 else if k=9 then let r:=S.bO x.b x.c;(r.1,0,0,r.2)
 else if k=10 then let r:=S.du x.a;(r.1,r.2,0,0)
 else let r:=S.shrink x.a x.c;(r.1,r.2,0,0)
def iK{α:Type}{P:α->Prop}{c:Prop}[Decidable c]{a b:α}(h1:c->P a)(h2:¬ c->P b):P (if c then a else b):=by
 by_cases h:c;·rw[bL h];exact h1 h
 ·rw[bJ h];exact h2 h
def uy{P:Cs×Int×Int×Int->Prop}(S:Cs)(x:Act)(c:x.k.tmod 12=0->P ((S.cp x.a).1,(S.cp x.a).2.1,0,(S.cp x.a).2.2))(h1:x.k.tmod 12=1->P ((S.remove x.a).1,0,0,(S.remove x.a).2))(h2:x.k.tmod 12=2->P ((S.cC x.a x.b x.c).1,0,0,(S.cC x.a x.b x.c).2))(d:x.k.tmod 12=3->P (S.fresh x.a))(e:x.k.tmod 12=4->P (S.cN (x.kf,x.ki) x.a))(f:x.k.tmod 12=5->P ((S.cd x.b x.a).1,(S.cd x.b x.a).2.1,0,(S.cd x.b x.a).2.2))(g:x.k.tmod 12=6->P (S.copy x.b x.a))(h:x.k.tmod 12=7->P ((S.put x.b x.a (mg x.c)).1,0,0,(S.put x.b x.a (mg x.c)).2))(i:x.k.tmod 12=8->P ((S.get x.b x.a).1,(S.get x.b x.a).2.1,0,(S.get x.b x.a).2.2))(j:x.k.tmod 12=9->P ((S.bO x.b x.c).1,0,0,(S.bO x.b x.c).2))(a:x.k.tmod 12=10->P ((S.du x.a).1,(S.du x.a).2,0,0))(b:(¬ x.k.tmod 12=0/\¬ x.k.tmod 12=1/\¬ x.k.tmod 12=2/\¬ x.k.tmod 12=3/\¬ x.k.tmod 12=4/\¬ x.k.tmod 12=5/\¬ x.k.tmod 12=6/\¬ x.k.tmod 12=7/\¬ x.k.tmod 12=8/\¬ x.k.tmod 12=9/\¬ x.k.tmod 12=10)->P ((S.shrink x.a x.c).1,(S.shrink x.a x.c).2,0,0)):P (S.act x):=by
 unfold Cs.act;exact iK c (λk=>iK h1 (λl=>iK h2 (λm=>iK d (λn=>iK e (λo=>iK f (λn5=>iK g (λn6=>iK h (λn7=>iK i (λn8=>iK j (λn9=>iK a (λn10=>b ⟨k,l,m,n,o,n5,n6,n7,n8,n9,n10⟩)))))))))))
variable{S:Cs}
def Inv.act(h:Inv S)(hn:S.bt.next<16777216)(x:Act):Inv (S.act x).1:=by
 exact uy (P:=λr=>Inv r.1) S x (λ_=>h.cp _) (λ_=>h.remove _) (λ_=>h.cC _ _ _) (λ_=>h.fresh hn _) (λ_=>h.cN hn _ _) (λ_=>h.cd _ _) (λ_=>h.copy hn _ _)
  (λ_=>h.put _ _ _) (λ_=>h.get _ _) (λ_=>h.bO _ _) (λ_=>h.du _) (λ_=>h.shrink _ _)
def HR{t:Int}:∀(l:bA (Int×Int)) {S:Cs},Inv S->eD S (ct t l S).1
 |[],S,_=>.refl S
 |(g,k)::l,S,h=>by
  have e:∀(n:Nat) {S:Cs},Inv S->eD S (db t [g] n S).1:=by
   intro n;induction n with
   |zero=>intro S _;exact .refl S
   |succ n a=>intro S h;exact(eD.cO h t [g] false).trans (a (h.cO t [g] false))
  exact(e k.toNat h).trans (HR l (Inv.db k.toNat h))
def HS{t:Int}:∀(n:Nat) {S:Cs},Inv S->eD S (dC t n S).1
 |0,S,_=>.refl S
 |n+1,S,h=>by
  unfold dC;dsimp only;split;·exact(eD.cO h t _ _).trans (HS n (h.c2 t))
  ·exact eD.cO h t _ _
def w4(h:Inv S)(t n:Int):eD S (S.shrink t n).1:=by
 unfold Cs.shrink;split;·exact .refl S
 ·exact(HR _ h).trans (HS _ (Inv.ct _ h))
def HT(h:Inv S)(hn:S.bt.next<16777216){g:Int}(hl:S.live g=true)(text:bA UInt8):S.bt.next<=(S.c3 g text).1.bt.next/\(S.c3 g text).1.bt.next<=S.bt.next+1:=by
 rcases uu h hn hl text with⟨S0,a,k,he,_,_⟩|⟨S0,t,k,he⟩
 ·have hk:=k.outs.kept h;have b:=k.outs.inv h;have hm:=pv S0.bt (kf:= -1) (ki:=0) (o:=g) ⟨b.cI.next,by rw[hk.next];exact hn⟩ (.inl bN);have:(S.c3 g text).1.bt.next=S.bt.next+1:=by
   rw[he];show(((S0.bt.make (-1) 0 g).1.own S0.bt.next g).1.put S0.bt.next 1 a).1.next=_;have h1:∀(T:TS) (id pl x:Int),(T.put id pl x).1.next=T.next:=by
    intro T id pl x;unfold TS.put;split;·rfl
    ·split;·rfl
     ·split<;>rfl
   rw[h1,(HQ _ _ _).1,hm.2.1,hk.next]
  omega
 ·rw[he];have:=(k.outs.kept h).next;show S.bt.next<=S0.bt.next/\S0.bt.next<=_;omega
def w5(h:Inv0 S)(b:∀x p,S.bt.pg x=some p->p.kf<0->p.place≠0)(id g:Int):(S.cd id g).1.bt.next=S.bt.next:=by
 have d:Inv S:=⟨h,b⟩
 cases hp:S.bt.pg id with
 |none=>rw[oF h (.inl hp)]
 |some p=>
  cases hl:S.live g with
  |false=>rw[oF h (.inr (.inl hl))]
  |true=>
   by_cases c:p.place=0/\p.kf<0;·rw[oF h (.inr (.inr ⟨p,hp,c⟩))]
   ·by_cases h1:p.place=1;·rw[w1 h hp h1 hl]
    ·rcases sd h b hp hl c h1 with⟨S0,a,k,e⟩|⟨S0,t,k,he⟩
     ·exact k.next
     ·rw[he];exact(k.outs.kept d).next
def hC(h:Inv S)(hn:S.bt.next<16777216)(x:Act):S.bt.next<=(S.act x).1.bt.next/\(S.act x).1.bt.next<=S.bt.next+1:=by
 have same:∀ {T:TS},T.next=S.bt.next->S.bt.next<=T.next/\T.next<=S.bt.next+1:=λe=>bu
 refine uy (P:=λr=>S.bt.next<=r.1.bt.next/\r.1.bt.next<=S.bt.next+1) S x (λ_=>?_) (λ_=>?_) (λ_=>?_) (λ_=>?_) (λ_=>?_) (λ_=>?_) (λ_=>?_) (λ_=>?_) (λ_=>?_) (λ_=>?_) (λ_=>?_) (λ_=>?_);·refine same ?_;unfold Cs.cp;dsimp only;split<;>rfl
 ·refine same ?_;unfold Cs.remove;dsimp only;split;·exact(q5 _ _ _).1
  ·rfl
 ·refine same ?_;unfold Cs.cC Cs.ig;repeat' split
  all_goals rfl
 ·unfold Cs.fresh;split;·exact same rfl
  ·next hl=>exact HT h hn (by simpa using hl) _
 ·unfold Cs.cN;dsimp only;split;·exact same rfl
  ·next d=>
   have hl:S.live x.a=true:=by
    cases a:S.live x.a with
    |true=>rfl
    |false=>exact absurd (.inr a) d
   have hf:ej S.files (x.kf,x.ki)=true:=by
    cases a:ej S.files (x.kf,x.ki)with
    |true=>rfl
    |false=>exact absurd (.inl a) d
   by_cases hm:S.bt.of (x.kf,x.ki)<0
   ·rw[dE hm];simp only[gQ];have g:=uw hf;have i:=pv S.bt (kf:=x.kf) (ki:=x.ki) (o:=x.a) ⟨h.cI.next,hn⟩ (.inr hm);have k:=h.toInv0.make hn (kf:=x.kf) (ki:=x.ki) hl (.inr ⟨hm,hf⟩);have j:gJ S.bt x.kf x.ki=(x.kf,x.ki):=by unfold gJ;rw[bJ (by have:0<=x.kf:=g;omega)]
    have c:∀y p,(S.bt.make x.kf x.ki x.a).1.pg y=some p->p.kf<0->p.place≠0:=by
     intro y q f b;rw[i.2.2]at f;split at f
     ·rw[<- cU f,j]at b;have:x.kf<0:=b;have:0<=x.kf:=g;omega
     ·exact h.anon _ _ f b
    have hb:=w5 k c (S.bt.make x.kf x.ki x.a).2.1 x.a;have hb:(Cs.cd {S with bt:=(S.bt.make x.kf x.ki x.a).1} (S.bt.make x.kf x.ki x.a).2.1 x.a).1.bt.next=S.bt.next+1:=by rw[hb];exact i.2.1
    have l:∀(T:TS) (id:Int),(T.drop id).1.next=T.next:=by
     intro T id;unfold TS.drop;split;·rfl
     ·split<;>rfl
    split;·rw[hb];omega
    ·show _<=((Cs.cd _ _ _).1.bt.drop _).1.next/\((Cs.cd _ _ _).1.bt.drop _).1.next<=_;rw[l,hb];omega
   ·rw[di hm];simp only[l2,gP];have:=w5 h.toInv0 h.anon (S.bt.of (x.kf,x.ki)) x.a;split<;>exact same this
 ·exact same (w5 h.toInv0 h.anon _ _)
 ·unfold Cs.copy;dsimp only;split;·exact same rfl
  ·next hl=>
   have hl:S.live x.a=true:=by
    cases d:S.live x.a with
    |true=>rfl
    |false=>exact absurd (.inr (.inl d)) hl
   exact HT h hn hl _
 ·refine same ?_;unfold Cs.put;dsimp only;split;·rfl
  ·split;·exact(q4 _ _ _).1
   ·rfl
 ·refine same ?_;unfold Cs.get;dsimp only;split;·rfl
  ·dsimp only;split<;>rfl
 ·refine same ?_;rcases oG h x.b x.c with⟨_,he⟩|⟨p,hp,⟨_,he⟩|⟨_,_,he⟩|⟨_,_,_,_,he,_⟩⟩
  ·rw[he]
  ·rw[he]
  ·rw[he];rfl
  ·exact he
 ·exact same rfl
 ·exact same ((w4 h _ _).kept h).next
end Go.Kc
namespace Go.Kv
open Go Go.Vc Go.Sp
def RT:Nat->Type
 |0=>bA (bW Nat)
 |n+1=>bA (bW (Nat×RT n))
def hasB:bA Bool->Nat
 |[]=>0
 |b::r=>(if b then 1 else 0)+2*hasB r
def mm(ks:bA (bW Nat)):bA bE:=ks.map λk=>.pointer (k.map λb=>⟨b,0,none⟩)
def m0(ws:bA (bW Nat)):bA bE:=ws.map λx=>.int .u64 ((x.getD 0:Nat):Int)
def gu(ks ws:bA (bW Nat))(h:Nat):bA bE:=mm ks++(m0 ws++[.int .u16 (h:Int)])
def dB:bA (bW Nat):=List.replicate 16 none
def RT.vs:(n:Nat)->RT n->bA bE
 |0,ws=>gu dB ws (hasB (List.map Option.isSome (ws:bA (bW Nat))))
 |n+1,ks=>gu (List.map (Option.map Prod.fst) (ks:bA (bW (Nat×RT n)))) dB (hasB (List.map Option.isSome (ks:bA (bW (Nat×RT n)))))
def RT.zero:(n:Nat)->RT n
 |0=>(List.replicate 16 none:bA (bW Nat))
 |n+1=>(List.replicate 16 none:bA (bW (Nat×RT n)))
def RT.look:(n:Nat)->RT n->Nat->bW Nat
 |0,ws,p=>List.getD (ws:bA (bW Nat)) (p%16) none
 |n+1,ks,p=>match List.getD (ks:bA (bW (Nat×RT n))) (p/16^(n+1)%16) none with
  |none=>none
  |some (_,t)=>RT.look n t p
def RT.ok:(n:Nat)->RT n->Prop
 |0,ws=>List.length (ws:bA (bW Nat))=16
 |n+1,ks=>List.length (ks:bA (bW (Nat×RT n)))=16/\∀(i b:Nat) (t:RT n),List.getD (ks:bA (bW (Nat×RT n))) i none=some (b,t)->RT.ok n t
def dH:(n:Nat)->Nat->RT n->cv
 |0,b,ws=>[bC b (RT.vs 0 ws)]
 |n+1,b,ks=>bC b (RT.vs (n+1) ks)::List.flatMap (λk:bW (Nat×RT n)=>match k with|none=>[]|some (a,t)=>dH n a t) (ks:bA (bW (Nat×RT n)))
def e1(n:Nat)(k:bW (Nat×RT n)):cv:=match k with|none=>[]|some (a,t)=>dH n a t
def j5(n:Nat)(ks:bA (bW (Nat×RT n)))(d:Nat):cv:=(ks.take d).flatMap (e1 n)++(ks.drop (d+1)).flatMap (e1 n)
def HU(n b:Nat)(ks:bA (bW (Nat×RT n))):dH (n+1) b ks=bC b (RT.vs (n+1) ks)::ks.flatMap (e1 n):=rfl
def se{α β:Type}{f:α->bA β}:∀ {l:bA α} {d:Nat} {x:α},l[d]?=some x->l.flatMap f=(l.take d).flatMap f++(f x++(l.drop (d+1)).flatMap f)
 |[],_,_,h=>by cases h
 |a::l,0,x,h=>by cases h;simp
 |a::l,d+1,x,h=>by
  have:=se (f:=f) (l:=l) (d:=d) h;rw[nN,this,List.take_succ_cons,nN,List.drop_succ_cons,dm]
def RT.lN:∀n,RT.ok n (RT.zero n)
 |0=>by show(List.replicate 16 (none:bW Nat)).length=16;simp
 |n+1=>by
  refine⟨?_,λi b t h=>?_⟩;·show(List.replicate 16 (none:bW (Nat×RT n))).length=16;simp
  ·have h:List.getD (List.replicate 16 (none:bW (Nat×RT n))) i none=some (b,t):=h;rw[dT,od]at h;split at h<;>cases h
def RT.jA:∀(n p:Nat),RT.look n (RT.zero n) p=none
 |0,p=>by
  show(List.replicate 16 (none:bW Nat)).getD (p%16) none=none;rw[dT,od];split<;>rfl
 |n+1,p=>by
  have:List.getD (List.replicate 16 (none:bW (Nat×RT n))) (p/16^(n+1)%16) none=none:=by
   rw[dT,od];split<;>rfl
  show(match List.getD (List.replicate 16 (none:bW (Nat×RT n))) (p/16^(n+1)%16) none with|none=>none|some (_,t)=>RT.look n t p)=none;rw[this]
variable{E:Env}{L:cv}{w:bH}
def dH.open{n b d a:Nat}{ks:bA (bW (Nat×RT n))}{t:RT n}(hk:ks[d]?=some (some (a,t)))(h:Sep E (dH (n+1) b ks++L) w):Sep E (dH n a t++(bC b (RT.vs (n+1) ks)::(j5 n ks d++L))) w:=by
 rw[HU,se hk]at h;refine h.perm ?_;unfold j5;show((bC b (RT.vs (n+1) ks)::(List.flatMap (e1 n) (ks.take d)++(dH n a t++List.flatMap (e1 n) (ks.drop (d+1)))))++L).Perm _;generalize List.flatMap (e1 n) (ks.take d)=A;generalize List.flatMap (e1 n) (ks.drop (d+1))=B;generalize dH n a t=C;generalize bC b (RT.vs (n+1) ks)=X;simp only[o4,dm];refine(List.Perm.cons X ?_).trans jc.symm;have:(A++(C++(B++L))).Perm (C++(A++(B++L))):=by
  have h1:=rF (B++L) (lZ (l₁:=A) (l₂:=C));rwa[dm,dm]at h1
 exact this
def dH.shut{n b d a:Nat}{ks:bA (bW (Nat×RT n))}{t:RT n}(f:d<ks.length)(h:Sep E (dH n a t++(bC b (RT.vs (n+1) (ks.set d (some (a,t))))::(j5 n ks d++L))) w):Sep E (dH (n+1) b (ks.set d (some (a,t)))++L) w:=by
 have hk:(ks.set d (some (a,t)))[d]?=some (some (a,t)):=iZ f;rw[HU,se hk];have c:(ks.set d (some (a,t))).take d=ks.take d:=by rw[Ti (ep d)]
 have e:(ks.set d (some (a,t))).drop (d+1)=ks.drop (d+1):=by rw[Tj bu]
 rw[c,e];refine h.perm ?_;unfold j5;show List.Perm _ ((bC b (RT.vs (n+1) (ks.set d (some (a,t))))::(List.flatMap (e1 n) (ks.take d)++(dH n a t++List.flatMap (e1 n) (ks.drop (d+1)))))++L);generalize List.flatMap (e1 n) (ks.take d)=A;generalize List.flatMap (e1 n) (ks.drop (d+1))=B;generalize dH n a t=C;generalize bC b (RT.vs (n+1) (ks.set d (some (a,t))))=X;simp only[o4,dm];refine jc.trans (List.Perm.cons X ?_);have:(C++(A++(B++L))).Perm (A++(C++(B++L))):=by
  have h1:=rF (B++L) (lZ (l₁:=C) (l₂:=A));rwa[dm,dm]at h1
 exact this
def uz:∀(l:bA Bool) (d:Nat),hasB l/2^d%2=if l.getD d false then 1 else 0
 |[],d=>by simp[hasB]
 |b::r,0=>by
  simp only[hasB,zr,zE];cases b<;>simp<;>omega
 |b::r,d+1=>by
  have:=uz r d;rw[p3,wm,<- FR];have e:hasB (b::r)/2=hasB r:=by simp only[hasB];cases b<;>simp<;>omega
  rw[e,this];rfl
def oI:∀(l:bA Bool),hasB l<2^l.length
 |[]=>by simp[hasB]
 |b::r=>by
  have:=oI r;simp only[hasB,hI,p3];cases b<;>simp<;>omega
end Go.Kv
namespace Go.Vc
open Go
def FW:bW Nat->Fence
 |none=>Fence.wide
 |some l=>Fence.wide.inRound l
def FW.fn(r:bW Nat)(f:bg7):(FW r).fn f:=by cases r<;>exact trivial
def FW.depth(r:bW Nat):(FW r).depth=none:=by cases r<;>rfl
section
variable{P:cP}{τ:cf->K1}{ρ:cf->Kd}{cz:bg7->Bool}{A:dO}{yl:Nat->Bool}{n:Nat}
def FW.calls{r:bW Nat}{f:bg7}{args:cb bE}{w:bH}{R:Ending->bg0}(h:Calls P f args w R):CallsIn (FW r) n P f args w R:=by
 cases r with
 |none=>exact callsIn_wide.2 h
 |some l=>exact(callsIn_wide.2 h).inRound l
def FW.rows{r:bW Nat}{row:String}{args:cb bE}{w:bH}{R:bg1}(h:Rows P row args w R):RowsIn (FW r) n P row args w R:=by
 have h1:RowsIn Fence.wide n P row args w R:=λc cs _=>let ⟨v,w',a,s⟩:=h c cs;⟨v,w',a,stepsIn_wide.2 s⟩;cases r with
 |none=>exact h1
 |some l=>exact h1
def FW.ky{r:bW Nat}{x:Prop}:(FW r).depth.isSome=true->x:=by rw[FW.depth];intro h;cases h
def Va{r:bW Nat}{o:Oper}{a0 a:Act}{w:bH}{K g:Act->bg0}{Q Q':Exit->Act->bg0}(l:a0.tmps=a.tmps)(i:∀c,o.op≠ .defer c)(h:o.wp P a0 w K Q)(hn:∀v w',K (a0.put o.dst v) w'->g (a.put o.dst v) w')(k:∀d w',¬ K ({a0 with defers:=d::a0.defers}.put o.dst undef) w')(hp:∀b w',Q (.panic b) a0 w'->Q' (.panic b) a w')(hl:LetsOut Q->LetsOut Q'):o.wpIn (FW r) n P a w g Q':=by
 refine⟨λf _=>FW.fn r f,?_⟩;have he:a0.eval=a.eval:=by funext x;cases x<;>simp[Act.eval,l]
 rw[Oper.semAt_eq _ _ _ i,<- he];unfold Oper.wp at h;generalize (execOp a0.eval o).run P w=res at h ⊢
 match res with
 |.ok (.value v) w'=>exact hn _ _ h
 |.ok .skip w'=>exact hn _ _ h
 |.ok (.defer d) w'=>exact absurd h (k d w')
 |.ok (.enter f args) w'=>
  refine⟨FW.ky,FW.calls (Calls.mono h λe j he=>?_)⟩;cases e with
  |returned v=>exact hn _ _ he
  |panicked b=>exact hp _ _ he
  |outgrown=>exact hl he
 |.ok (.row row args) w'=>exact⟨FW.ky,FW.rows (Rows.mono h λv j m=>hn _ _ m)⟩
 |.halt (.panic v) w'=>exact hp _ _ h
def marks(D:bA Nat):bA Deferred:=D.map λb=> {target:=.collected b,args:= #[]}
structure eR(D:bA Nat)(N:Nat)(T:Tr)(a:Act):Prop where
 defers:a.defers=marks D
 rel:Rel N T {tmps:=a.tmps,defers:=[]}
def eR.put{D:bA Nat}{N:Nat}{T:Tr}{a:Act}(h:eR D N T a)(b:N<=8000){d:bW Nat}(c:∀t,d=some t->t<N)(v:bE):eR D N (T.put d v) (a.put d v):=by
 have:=h.rel.put b c v;cases d with
 |none=>exact⟨h.defers,this⟩
 |some d=>exact⟨h.defers,this⟩
def eR.same{D:bA Nat}{N:Nat}{T T':Tr}{a:Act}(h:eR D N T a)(b:∀t,T'.get t=T.get t):eR D N T' a:=⟨h.defers,h.rel.same b⟩
def eR.ev{D:bA Nat}{N:Nat}{T:Tr}{a:Act}(h:eR D N T a):a.eval=T.ev:=by
 rw[<- h.rel.ev];funext x;cases x<;>rfl
def eR.of{N:Nat}{T:Tr}{a:Act}(h:Rel N T a):eR [] N T a:=⟨h.defers,⟨rfl,h.size,h.get⟩⟩
def w6(P:cP)(r:bW Nat)(g:bE)(args:cb bE)(w:bH)(R:Ending->bg0):Prop:=
 ∃l,g=.func (.yield l) #[] #[]/\YieldAt (FW r) 0 P l args w R
def uA(yl:Nat->Bool)(o:Oper):Bool:=match o.dst with|some d=>yl d|none=>false
def oJ(P:cP)(τ:cf->K1)(ρ:cf->Kd)(cz:bg7->Bool)(A:dO)(yl:Nat->Bool)(r:bW Nat)(o:Oper)(T:Tr)(w:bH)(next:Tr->bg0)(Q:Exit->Tr->bg0):Prop:=
 bif uA yl o then(match o.op with
  |.call {callee:=.value g,args,.. } =>w6 P r (T.ev g) (args.map T.ev) w λe w'=>(ρ o.type).ex λv=>e=.returned v/\next (T.put o.dst v) w'
  |_=>False)
 else nf P τ ρ cz A o T w next Q
def w7(P:cP)(τ:cf->K1)(ρ:cf->Kd)(cz:bg7->Bool)(A:dO)(yl:Nat->Bool)(r:bW Nat)(ops:cb Oper)(Q:Exit->Tr->bg0):bA Oper->Tr->bg0
 |[],T,w=>Q .normal T w
 |o::rest,T,w=>kj ops o T (λT=>oJ P τ ρ cz A yl r o T w (w7 P τ ρ cz A yl r ops Q rest) Q) (λT=>w7 P τ ρ cz A yl r ops Q rest (T.put o.dst undef) w)
def sf(P:cP)(τ:cf->K1)(ρ:cf->Kd)(cz:bg7->Bool)(A:dO)(yl:Nat->Bool)(r:bW Nat)(ops:cb Oper)(Q:Exit->Tr->bg0):Nat->cb Bool->Tr->bg0
 |0,listed,T,w=>match Region.ready .any ops listed with
  |[]=>Q .normal T w
  |_=>False
 |fuel+1,listed,T,w=>match Region.ready .any ops listed with
  |[]=>Q .normal T w
  |i::l=>tW (λi=>match ops[i]? with
   |none=>False
   |some o=>kj ops o T (λT=>oJ P τ ρ cz A yl r o T w (sf P τ ρ cz A yl r ops Q fuel (listed.setIfInBounds i true)) Q) (λT=>sf P τ ρ cz A yl r ops Q fuel (listed.setIfInBounds i true) (T.put o.dst undef) w)) (i::l)
def Vb(b:Nat)(c:Code)(done ret:bg0):Ending->bg0
 |.returned _,w=>∃r:Loop,w.heap[b+1]?=some (.loop r)/\r.state≠ .busy/\(match r.pending with
  |none=>done (w.putObj (b+1) (.loop {r with state:=.exhausted}))
  |some c'=>c'=c/\ret (w.putObj (b+1) (.loop {r with state:=.exhausted})))
 |_,_=>False
def si(fn:bg7)(a:cb bE)(ps:cb Tmp)(assign body:Code)(b:Nat):Loop:={state:=.ready,pending:=none,fn,tmps:=a,params:=ps,assign,body,defers:=b}
def q6(T:Tr)(a:cb bE):Prop:=∀t,a.getD t undef=T.get t
def iy(P:cP)(N:Nat)(g:bE)(ps:cb Tmp)(assign body c:Code)(T:Tr)(w:bH)(done ret:Nat->bg0):Prop:=
 ∃(f:bg7) (fi ca b:cb bE),g=.func (.func f) fi ca/\b=fi++ #[.func (.yield (w.heap.size+1)) #[] #[]]++ca/\kN P f=true/\∀(fn:bg7) (a:cb bE),a.size=N->q6 T a->
  Calls P f b ((w.alloc (.deferred (some []))).alloc (.loop (si fn a ps assign body w.heap.size))) (Vb w.heap.size c (done w.heap.size) (ret w.heap.size))
def A8:bW Nat->Code
 |none=>.ret
 |some i=>.exit i
def A9:bW Nat->Exit
 |none=>.ret
 |some i=>.exit i
def HV(next:bA Nat->Tr->bg0)(Q:bA Nat->Exit->Tr->bg0):bA Nat->Exit->Tr->bg0
 |D,.normal,T,w=>next D T w
 |D,e,T,w=>Q D e T w
def Vd(id:Nat)(Q:bA Nat->Exit->Tr->bg0):bA Nat->Exit->Tr->bg0
 |D,.exit a,T,w=>bif Nat.beq a id then Q D .normal T w else Q D (.exit a) T w
 |D,e,T,w=>Q D e T w
def kz(P:cP)(τ:cf->K1)(ρ:cf->Kd)(cz:bg7->Bool)(A:dO)(yl:Nat->Bool)(N:Nat)(r:bW Nat):Nat->Code->(bA Nat->Exit->Tr->bg0)->bA Nat->Tr->bg0
 |0,_,_,_,_,_=>False
 |n+1,c,Q,D,T,w=>match c with
  |.skip=>Q D .normal T w
  |.label _=>Q D .normal T w
  |.exit id=>Q D (.exit id) T w
  |.ret=>Q D .ret T w
  |.region id ops draw=>match draw with
   |false=>w7 P τ ρ cz A yl r ops (Q D) ops.toList T w
   |true=>bif A.head id==ops.size then Dr (λw'=>tV P τ ρ ops w' (λT'=>Q D .normal T' w') ops.toList T) w else Dr (λw'=>sf P τ ρ cz A yl r ops (Q D) ops.size (Array.replicate ops.size false) T w') w
  |.seq x y=>kz P τ ρ cz A yl N r n x (HV (λD T w=>kz P τ ρ cz A yl N r n y Q D T w) Q) D T w
  |.cond c x y=>match T.ev c with
   |.bool t=>bif t then kz P τ ρ cz A yl N r n x Q D T w else kz P τ ρ cz A yl N r n y Q D T w
   |_=>False
  |.block id c=>kz P τ ρ cz A yl N r n c (Vd id Q) D T w
  |.loop c=>wC (A.loop ((l8 c).getD 0)) (wr c) (λnext=>kz P τ ρ cz A yl N r n c (HV (λa T w=>a=D/\next T w) Q) D) T w
  |.rangeFunc g ps assign body=>match r with
   |none=>iy P N (T.ev g) ps assign body (A8 A.brk) T w (λb w'=>Q (b::D) .normal T w') (λb w'=>Q (b::D) (A9 A.brk) T w')
   |some _=>False
  |_=>False
def gK(P:cP)(N:Nat)(A:dO):Code->Bool
 |.region id ops _=>(g4 P N ops.toList&&ops.toList.all λo=>match o.op with | .defer _=>false|_=>true)&&(bif A.head id==ops.size then Region.lexB .any ops else true)
 |.seq x y=>gK P N A x&&gK P N A y
 |.cond _ x y=>gK P N A x&&gK P N A y
 |.block _ c=>gK P N A c
 |.loop c=>gK P N A c&&okW c&&nj (A.loop ((l8 c).getD 0))
 |_=>true
def HW{D:bA Nat}{r:bW Nat}{N:Nat}{o:Oper}{T:Tr}{a:Act}{w:bH}{next:Tr->bg0}{next':Act->bg0}{Q:Exit->Tr->bg0}{Q':Exit->Act->bg0}(hr:eR D N T a)(z:∀s d x,o.op=.convert s d x->(P.underlying s).isSome=true)(q:∀c,o.op≠ .defer c)(h:oJ P τ ρ cz A yl r o T w next Q)(hn:∀v w',next (T.put o.dst v) w'->next' (a.put o.dst v) w')(hp:∀m w',Q (.panic m) T w'->Q' (.panic m) a w'):o.wpIn (FW r) 0 P a w next' Q':=by
 unfold oJ at h;cases u:uA yl o with
 |true=>
  rw[u,hM]at h;split at h
  ·rename_i g args ts ho;obtain⟨l,t,fn,tmps,assign,body,p,n⟩:=h;refine⟨λf _=>FW.fn r f,?_⟩;rw[<- hr.ev]at t p;have he:(execOp a.eval o).run P w=.ok (.round l fn tmps assign body) w:=by
    simp only[execOp,ho,resolve,t,Deferred.ofValue,Sem.run_bind,Sem.run_pure,Result.andThen,invoke];simpa using p
   rw[Oper.semAt_eq _ _ _ q,he];refine⟨FW.ky,n.mono λe w' he=>?_⟩;obtain⟨v,rfl,j⟩:=Kd.eT he;exact hn _ _ j
  ·exact h.elim
 |false=>
  rw[u,hh]at h;have:=wH (next':=λb w'=>∃v,b= {tmps:=(a.put o.dst v).tmps,defers:=[]} /\next (T.put o.dst v) w') (Q':=λe _ w'=>match e with | .panic m=>Q (.panic m) T w' | _=>False) hr.rel z h
   (λv w' j=>⟨v,by cases o.dst<;>rfl,j⟩) (λm w' h=>h)
  refine Va (a0:={tmps:=a.tmps,defers:=[]}) rfl q this (λv w' j=>?_) (λd w' B=>?_) (λm w' h=>hp _ _ h) (λ⟨_,_,h⟩=>h.elim)
  ·obtain⟨y,k,j⟩:=j;have e:a.put o.dst v=a.put o.dst y:=by
    cases i:o.dst with
    |none=>rfl
    |some d=>
     rw[i]at k;have:=eK Act.tmps k;simp only[Act.put]at this ⊢;rw[this]
   rw[e];exact hn _ _ j
  ·obtain⟨y,k,_⟩:=B;have:=eK Act.defers k;cases i:o.dst with
   |none=>rw[i]at this;cases this
   |some d=>rw[i]at this;cases this
def Ba{l:bA Oper}(h:(l.all λo=>match o.op with | .defer _=>false|_=>true)=true){o:Oper}(ho:o∈l):∀c,o.op≠ .defer c:=by
 intro c e;have:=fS.1 h o ho;rw[e]at this;cases this
def HX{D:bA Nat}{N:Nat}{ops:cb Oper}{o:Oper}{T:Tr}{a:Act}{yes no:Tr->Prop}{B:Prop}(c:N<=8000)(b:g4 P N ops.toList=true)(hr:eR D N T a)(h:kj ops o T yes no)(d:∀T',(∀t,T'.get t=T.get t)->yes T'->Region.wanted o (yielded ops a.tmps)=true->B)(hn:∀T',(∀t,T'.get t=T.get t)->no T'->Region.wanted o (yielded ops a.tmps)=false->B):B:=
 pf (B:=B) c b hr.rel h d hn
def Bb{D:bA Nat}{r:bW Nat}{N:Nat}(i:N<=8000){ops:cb Oper}(d:g4 P N ops.toList=true){Q:Exit->Tr->bg0}{Q':Exit->Act->bg0}:∀(l:bA Oper) (T:Tr) (a:Act) (w:bH),
  g4 P N l=true->(l.all λo=>match o.op with | .defer _=>false|_=>true)=true->eR D N T a->
  w7 P τ ρ cz A yl r ops Q l T w->(∀e T' w' a',Q e T' w'->Fr (eF l) T T'->eR D N T' a'->Q' e a' w')->wpListIn (FW r) 0 P ops Q' l a w
 |[],T,a,w,_,_,hr,h,q=>q _ _ _ _ h (.refl _ _) hr
 |o::l,T,a,w,n,j,hr,h,q=>by
  have p:=wG n;have k:(l.all λo=>match o.op with | .defer _=>false|_=>true)=true:=by rw[zj,dA]at j;exact j.2
  have G:=ow n (fz (a:=o) (l:=l));have c:=l9 n (fz (a:=o) (l:=l));have F:=Ba j (fz (a:=o) (l:=l));have x:∀t,t∈eF l->t∈eF (o::l):=λt y=>by
   unfold eF at y ⊢;rw[F2];split<;>simp_all
  have m:∀t,o.dst=some t->t∈eF (o::l)/\t<8000:=λt y=>⟨by simp[eF,y],lG (c t y) i⟩
  refine HX (B:=wpListIn (FW r) 0 P ops Q' (o::l) a w) i d hr h ?_ ?_
  ·intro T' u H hw;unfold wpListIn;rw[hw,bL rfl];have b:=hr.same u;have g:Fr (eF (o::l)) T T':=λt _=>u t;refine HW b G F H (λv w' h'=>?_) (λI w' E=>q _ _ _ _ E g b);exact Bb i d l _ _ _ p k (b.put i c v) h' (λe z w2 C he hf s=>q e z w2 C he ((g.trans (Fr.put _ _ _ _ m)).trans (hf.mono x)) s)
  ·intro T' u hn hw;unfold wpListIn;rw[hw,bJ bN];have b:=hr.same u;have g:Fr (eF (o::l)) T T':=λt _=>u t;exact⟨λf _=>FW.fn r f,Bb i d l _ _ _ p k (b.put i c undef) hn (λe z w2 C he hf s=>q e z w2 C he ((g.trans (Fr.put _ _ _ _ m)).trans (hf.mono x)) s)⟩
def Bc{D:bA Nat}{r:bW Nat}{N:Nat}(k:N<=8000){ops:cb Oper}(b:g4 P N ops.toList=true)(l:(ops.toList.all λo=>match o.op with | .defer _=>false|_=>true)=true){Q:Exit->Tr->bg0}{Q':Exit->Act->bg0}{s:Tr}(p:∀e T' w' a',Q e T' w'->Fr (eF ops.toList) s T'->eR D N T' a'->Q' e a' w'):
  ∀(fuel:Nat) (listed:cb Bool) (T:Tr) (a:Act) (w:bH),Fr (eF ops.toList) s T->eR D N T a->sf P τ ρ cz A yl r ops Q fuel listed T w->wpAnyIn (FW r) 0 P .any ops Q' fuel listed a w
 |0,listed,T,a,w,hf,hr,h=>by
  unfold sf at h;unfold wpAnyIn;split at h;·next e=>exact⟨e,p _ _ _ _ h hf hr⟩
  ·exact h.elim
 |fuel+1,listed,T,a,w,hf,hr,h=>by
  unfold sf at h;unfold wpAnyIn;split at h
  ·next e=>
   refine⟨λ_=>p _ _ _ _ h hf hr,λi m=>?_⟩;rw[e]at m;cases m
  ·next i0 H e=>
   refine⟨λx=>(by rw[e]at x;cases x),λi m=>?_⟩;rw[e]at m;have u:=AE h i m;unfold wpOpIn;cases ho:ops[i]? with
   |none=>simp only[ho]at u
   |some o=>
    simp only[ho]at u;have j:o∈ops.toList:=by
     have:=mD ho;simpa using this
    have E:=ow b j;have d:=l9 b j;have z:=Ba l j;have n:∀t,o.dst=some t->t∈eF ops.toList/\t<8000:=λt C=>⟨by unfold eF;exact v7.2 ⟨o,j,C⟩,lG (d t C) k⟩
    refine HX (B:=if Region.wanted o (yielded ops a.tmps)then o.wpIn (FW r) 0 P a w (wpAnyIn (FW r) 0 P .any ops Q' fuel (listed.setIfInBounds i true)) Q' else(∀f,o.about P w a.eval=some f->(FW r).fn f)/\wpAnyIn (FW r) 0 P .any ops Q' fuel (listed.setIfInBounds i true) (a.put o.dst undef) w) k b hr u ?_ ?_
    ·intro T' q F hw;rw[hw,bL rfl];have c:=hr.same q;have g:Fr (eF ops.toList) s T':=hf.trans (λt _=>q t);refine HW c E z F (λv w' h'=>?_) (λG w' y=>p _ _ _ _ y g c);exact Bc k b l p fuel _ _ _ _ (g.trans (Fr.put _ _ _ _ n)) (c.put k d v) h'
    ·intro T' q hn hw;rw[hw,bJ bN];have c:=hr.same q;have g:Fr (eF ops.toList) s T':=hf.trans (λt _=>q t);exact⟨λf _=>FW.fn r f,Bc k b l p fuel _ _ _ _ (g.trans (Fr.put _ _ _ _ n)) (c.put k d undef) hn⟩
def Ve{D:bA Nat}{r:bW Nat}{N:Nat}{c:Code}{l:bA (Nat×C1)}{body:(Tr->bg0)->Tr->bg0}{Q':Exit->Act->bg0}{T:Tr}{a:Act}{w:bH}(z:∀t∈wr c,t<8000)(hl:pd l)(hr:eR D N T a)(i:∀(next:Tr->bg0) (next':Act->bg0) (d:Tr) (g:Act) (j:bH),Fr (wr c) T d->eR D N d g->body next d j->(∀T' w' a',next T' w'->Fr (wr c) d T'->eR D N T' a'->next' a' w')->
   c.wpIn (FW r) 0 P (Exit.then next' Q') g j)(h:wC l (wr c) body T w):(Code.loop c).wpIn (FW r) 0 P Q' a w:=by
 obtain⟨G,M,H,h⟩:=h;let J:Nat->Act->bg0:=λn a' w'=>∃T',eR D N T' a'/\Fr (wr c) T T'/\∃u:Nat->bE,nR l G M (mN u (mM (wr c) l) T) (λv s F=>(∀t,T'.get t=v.get t)/\s w'/\F w'=n);have e:∃n,J n a w:=by
  obtain⟨n,hn⟩:=ud l G M T _ w hl H (rW T _ _ T (rX z) (λ_ _=>rfl));exact⟨n,T,hr,.refl _ _,_,hn⟩
 obtain⟨L,e⟩:=e;refine wpIn_loop_ghost J L e ?_;rintro n g j ⟨d,B,A,u,hex⟩;obtain⟨x,s,F,hK,b,K,rfl⟩:=uc l G M _ _ _ (h u) hex;have C:eR D N x g:=B.same (λt=>(b t).symm);have f:Fr (wr c) T x:=λt q=>(b t).symm.trans (A t q);refine i _ _ _ _ _ f C (hK j K) (λy O a3 I k E=>?_);have p:Fr (wr c) d y:=λt q=>(k t q).trans (b t).symm;obtain⟨m,hm,o⟩:=AH z hl hex (λ_ _ _ h=>h.1) p I;exact⟨m,hm,y,E,f.trans k,_,o⟩
def Vf{D:bA Deferred}{r:bW Nat}{ops:cb Oper}{w:bH}{i:Nat}{a0 a:Act}{K:Act->Prop}{m:Act->bg0}{Q':Exit->Act->bg0}(n:∀o,ops[i]?=some o->∀c,o.op≠ .defer c)(k:a0.tmps=a.tmps)(l:a.defers=D)(h:∀b0 b:Act,b0.tmps=b.tmps->b.defers=D->K b0->m b w)(g:stOp P ops w i K a0):wpOpIn (FW r) 0 P ops Q' i m a w:=by
 have j:∀(d:bW Tmp) (v:bE),(a0.put d v).tmps=(a.put d v).tmps/\(a.put d v).defers=D:=by
  intro d v;cases d with
  |none=>exact⟨k,l⟩
  |some d=>exact⟨by simp only[Act.put,k],l⟩
 have he:a0.eval=a.eval:=by funext x;cases x<;>simp[Act.eval,k]
 unfold stOp at g;unfold wpOpIn;cases ho:ops[i]? with
 |none=>simp only[ho]at g;exact h _ _ k l g
 |some o=>
  simp only[ho]at g;dsimp only;rw[k]at g;split
  ·rename_i hw;simp only[hw,gQ]at g;refine⟨λf _=>FW.fn r f,?_⟩;rw[Oper.semAt_eq _ _ _ (n o ho),<- he];unfold Oper.still at g;generalize (execOp a0.eval o).run P w=res at g ⊢
   match res with
   |.ok (.value v) w'=>obtain⟨rfl,g⟩:=g;exact h _ _ (j _ _).1 (j _ _).2 g
   |.ok .skip w'=>obtain⟨rfl,g⟩:=g;exact h _ _ (j _ _).1 (j _ _).2 g
   |.ok (.enter f args) w'=>
    obtain⟨rfl,v,p,g⟩:=g;refine⟨FW.ky,FW.calls (p.mono λe q he=>?_)⟩;obtain⟨rfl,rfl⟩:=he;exact h _ _ (j _ _).1 (j _ _).2 g
  ·rename_i hw;simp only[hw]at g;exact⟨λf _=>FW.fn r f,h _ _ (j _ _).1 (j _ _).2 g⟩
def HY{D:bA Deferred}{r:bW Nat}{ops:cb Oper}{md:Region.Mode}{w:bH}{Q:Act->Prop}{Q':Exit->Act->bg0}(f:∀(i:Nat) o,ops[i]?=some o->∀c,o.op≠ .defer c)(g:∀a0 a:Act,a0.tmps=a.tmps->a.defers=D->Q a0->Q' .normal a w):∀(fuel:Nat) (listed:cb Bool) (a0 a:Act),a0.tmps=a.tmps->a.defers=D->
  wpAnyS P md ops w Q fuel listed a0->wpAnyIn (FW r) 0 P md ops Q' fuel listed a w
 |0,_,_,_,e,d,h=>⟨h.1,g _ _ e d h.2⟩
 |fuel+1,_,_,_,e,d,h=>⟨λj=>g _ _ e d (h.1 j),λi l=>Vf (f i) e d (λb0 b h1 h2 k=>HY f g fuel _ b0 b h1 h2 k) (h.2 i l)⟩
def Bd(hm:P.follows .mixedOrders=true){N:Nat}(O:N<=8000){r:bW Nat}:∀(n:Nat) (c:Code) (Q:bA Nat->Exit->Tr->bg0) (Q':Exit->Act->bg0) (D:bA Nat) (T:Tr) (a:Act) (w:bH),gK P N A c=true->eR D N T a->
  kz P τ ρ cz A yl N r n c Q D T w->(∀q e T' w' a',Q q e T' w'->Fr (wr c) T T'->eR q N T' a'->Q' e a' w')->c.wpIn (FW r) 0 P Q' a w:=by
 intro n;induction n with
 |zero=>intro c Q Q' D T a w _ _ h;exact h.elim
 |succ n C=>
 intro c;cases c with
 |skip=>intro Q Q' D T a w _ hr h d;exact wpIn_skip (d _ _ _ _ _ h (.refl _ _) hr)
 |label l=>intro Q Q' D T a w _ hr h d;exact wpIn_label (d _ _ _ _ _ h (.refl _ _) hr)
 |exit id=>intro Q Q' D T a w _ hr h d;exact wpIn_exit (d _ _ _ _ _ h (.refl _ _) hr)
 |ret=>intro Q Q' D T a w _ hr h d;exact wpIn_ret (d _ _ _ _ _ h (.refl _ _) hr)
 |region id ops draw=>
  intro Q Q' D T a w j hr h d;unfold gK at j;simp only[dA]at j;obtain⟨⟨ho,G⟩,u⟩:=j;cases draw with
  |false=>exact wpIn_region_list (Bb O ho _ _ _ _ ho G hr h (λe T' w' a' h1 h2 E=>d _ _ _ _ _ h1 h2 E))
  |true=>
   refine wpIn_region_any hm ?_;unfold kz at h;dsimp only at h;cases F:A.head id==ops.size with
   |true=>
    rw[F,hM]at h u;have ae:∀(i:Nat) o,ops[i]?=some o->∀c,o.op≠ .defer c:=λi o ab=>Ba G (by have:=mD ab;simpa using this);simp only[Region.lexB,dA]at u;have h1:=ub (Q':=λa0=>∀m:Act,a0.tmps=m.tmps->m.defers=marks D->Q' .normal m w.drew) O ho _ _ _ ho hr.rel h (λT' a0 X hf b m k S=>d _ _ _ _ _ X hf ⟨S,by
     have:=b;exact⟨rfl,by rw[<- k];exact this.size,λt=>by rw[<- k];exact this.get t⟩⟩)
    have h2:=wpAnyS_lex (md:=.any) u.1 ops.toList 0 (Array.replicate ops.size false) _ (by simp) (by simpa using u.2) h1;have E:wpAnyS P .any ops w.drew (λa0=>∀m:Act,a0.tmps=m.tmps->m.defers=marks D->Q' .normal m w.drew) ops.size (Array.replicate ops.size false) {tmps:=a.tmps,defers:=[]} :=by simpa using h2
    exact HY (D:=marks D) ae (λa0 m k S ai=>ai m k S) _ _ {tmps:=a.tmps,defers:=[]} a rfl hr.defers E
   |false=>
    rw[F,hh]at h;exact Bc O ho G (λe T' w' a' h1 h2 E=>d D e T' w' a' h1 h2 E) _ _ _ _ _ (Fr.refl _ _) hr h
 |seq x y=>
  intro Q Q' D T a w j hr h d;unfold gK at j;simp only[dA]at j;have hx:∀t,t∈wr x->t∈wr (.seq x y):=λt k=>mE _ k;have am:∀t,t∈wr y->t∈wr (.seq x y):=λt k=>nM _ k;refine wpIn_seq (C x _ _ _ _ _ _ j.1 hr h (λq e T' w' a' he hf b=>?_));cases e with
  |normal=>exact C y _ _ _ _ _ _ j.2 b he (λan e ap w2 aq Y Z ag=>d _ _ _ _ _ Y ((hf.mono hx).trans (Z.mono am)) ag)
  |exit id=>exact d _ _ _ _ _ he (hf.mono hx) b
  |goto l=>exact d _ _ _ _ _ he (hf.mono hx) b
  |ret=>exact d _ _ _ _ _ he (hf.mono hx) b
  |panic L=>exact d _ _ _ _ _ he (hf.mono hx) b
  |outgrown=>exact d _ _ _ _ _ he (hf.mono hx) b
 |cond c x y=>
  intro Q Q' D T a w j hr h d;unfold gK at j;simp only[dA]at j;unfold kz at h;dsimp only at h;split at h
  ·rename_i t k;have K:a.eval c=.bool t:=by rw[hr.ev];exact k
   cases t with
   |true=>exact wpIn_cond_true K (C x _ _ _ _ _ _ j.1 hr h (λq e T' w' a' he hf b=>d _ _ _ _ _ he (hf.mono (λt k=>mE _ k)) b))
   |false=>exact wpIn_cond_false K (C y _ _ _ _ _ _ j.2 hr h (λq e T' w' a' he hf b=>d _ _ _ _ _ he (hf.mono (λt k=>nM _ k)) b))
  ·exact h.elim
 |block id c=>
  intro Q Q' D T a w j hr h d;refine wpIn_block (C c _ _ _ _ _ _ j hr h (λq e T' w' a' he hf b=>?_));cases e with
  |exit p=>
   replace he:bif Nat.beq p id then Q q .normal T' w' else Q q (.exit p) T' w':=he
   show if p=id then Q' .normal a' w' else Q' (.exit p) a' w'
   rw[j3]at he;by_cases e:p=id;·simp only[e,tB,hM]at he;rw[bL e];exact d _ _ _ _ _ he hf b
   ·have:(p==id)=false:=by simpa using e
    rw[this,hh]at he;rw[bJ e];exact d _ _ _ _ _ he hf b
  |normal=>exact d _ _ _ _ _ he hf b
  |goto l=>exact d _ _ _ _ _ he hf b
  |ret=>exact d _ _ _ _ _ he hf b
  |panic L=>exact d _ _ _ _ _ he hf b
  |outgrown=>exact d _ _ _ _ _ he hf b
 |loop c=>
  intro Q Q' D T a w j hr h d;unfold gK at j;simp only[dA]at j;obtain⟨⟨j,aj⟩,ad⟩:=j;unfold kz at h;dsimp only at h;refine Ve (tZ aj) (wF ad) hr (λnext next' ao m au z af hb hn=>?_) h;refine C c _ _ _ _ _ _ j af hb (λq e T' w' a' he hf b=>?_);cases e with
  |normal=>
   obtain⟨rfl,he⟩:=he;exact hn _ _ _ he hf b
  |exit id=>exact d _ _ _ _ _ he (z.trans hf) b
  |goto l=>exact d _ _ _ _ _ he (z.trans hf) b
  |ret=>exact d _ _ _ _ _ he (z.trans hf) b
  |panic L=>exact d _ _ _ _ _ he (z.trans hf) b
  |outgrown=>exact d _ _ _ _ _ he (z.trans hf) b
 |rangeFunc g ps assign body=>
  intro Q Q' D T a w j hr h d;unfold kz at h;dsimp only at h;cases r with
  |some l=>exact h.elim
  |none=>
   obtain⟨f,fi,ca,ar,aa,has,B,H⟩:=h;subst has;refine wpIn_rangeFunc (λfn _=>?_);have ak:=H fn a.tmps hr.rel.size hr.rel.get;unfold kN at B;split at B
   ·rename_i M U;simp only[dA,h9,vY]at B;obtain⟨V,W⟩:=B;have I:¬ M.body=none:=by intro hx;simp[hx]at V
    refine⟨w.heap.size+1,[{target:=.collected w.heap.size,args:= #[]}],(w.alloc (.deferred (some []))).alloc (.loop (si fn a.tmps ps assign body w.heap.size)), {target:=.fn (.func f) ca,args:=fi++ #[.func (.yield (w.heap.size+1)) #[] #[]]},(w.alloc (.deferred (some []))).alloc (.loop (si fn a.tmps ps assign body w.heap.size)),f,fi++ #[.func (.yield (w.heap.size+1)) #[] #[]]++ca,(w.alloc (.deferred (some []))).alloc (.loop (si fn a.tmps ps assign body w.heap.size)),run_enterLoop_outer fn a.tmps ps assign body,?_,λf' _=>trivial,?_,FW.ky (r:=none),?_⟩
    ·rw[<- hr.ev]at aa;have R:a.eval (.const (.func (.yield (w.heap.size+1)) #[] #[]))=.func (.yield (w.heap.size+1)) #[] #[]:=rfl;simp[resolve,aa,R,Deferred.ofValue]
    ·simp[invoke,callFunc,U,W,I]
    ·refine callsIn_wide.2 (Calls.mono ak λe w' he=>?_);cases e with
     |panicked L=>exact he.elim
     |outgrown=>exact he.elim
     |returned v=>
      obtain⟨ah,hl,al,he⟩:=he;refine⟨ah.pending,_,run_endLoop hl al,?_⟩;generalize w'.putObj (w.heap.size+1) (.loop {ah with state:=.exhausted})=av at he ⊢;have b:eR (w.heap.size::D) N T {a with defers:=[{target:=.collected w.heap.size,args:= #[]}]++a.defers} :=⟨by simp[hr.defers,marks],hr.rel⟩
      split at he;·next hp=>rw[hp];exact d _ _ _ _ _ he (.refl _ _) b
      ·next c' hp=>
       obtain⟨rfl,he⟩:=he;rw[hp];cases J:A.brk with
       |none=>rw[J]at he;exact wpIn_ret (d _ _ _ _ _ he (.refl _ _) b)
       |some i=>rw[J]at he;exact wpIn_exit (d _ _ _ _ _ he (.refl _ _) b)
   ·cases B
 |scope c=>intro Q Q' D T a w _ _ h _;unfold kz at h;exact h.elim
 |goto l=>intro Q Q' D T a w _ _ h _;unfold kz at h;exact h.elim
 |refuse s=>intro Q Q' D T a w _ _ h _;unfold kz at h;exact h.elim
def shut:bA Nat->bH->(bg0)->Prop
 |[],w,f=>f w
 |b::D,w,f=>w.heap[b]?=some (.deferred (some []))/\shut D (w.putObj b (.deferred none)) f
def Vg(P:cP)(τ:cf->K1)(rs:bA ResultVar)(K:bg1):bA Nat->Exit->Tr->bg0
 |D,.normal,T,w=>shut D w λw=>iE P τ w T rs #[] λvs=>K (oneOf vs) w
 |D,.ret,T,w=>shut D w λw=>iE P τ w T rs #[] λvs=>K (oneOf vs) w
 |_,_,_,_=>False
def m1(P:cP)(τ:cf->K1)(ρ:cf->Kd)(cz:bg7->Bool)(A:dO)(yl:Nat->Bool)(fn:Func)(args:cb bE)(K:bg1)(w:bH):Prop:=
 match fn.body with
 |some c=>kz P τ ρ cz A yl fn.ntmps none 1000 c (Vg P τ fn.results.toList K) [] (jg args.toList 0 .nil) w
 |none=>False
def m2(P:cP)(A:dO)(fn:Func)(n:Nat):Bool:=match fn.body with
 |some c=>gK P fn.ntmps A c&&Nat.ble fn.ntmps 8000&&Nat.ble n fn.ntmps
 |none=>false
def HZ{fn:Func}{tmps:cb bE}{R:Ending->bg0}:∀ {D:bA Nat} {w:bH} {f:bg0},shut D w f->(∀w',f w'->LeavesIn Fence.wide 0 P fn tmps R [] .returning w')->LeavesInM Fence.wide 0 P fn tmps R (marks D) .returning w
 |[],w,f,h,hf=>hf w h
 |b::D,w,f,h,hf=>⟨by simp,.inl ⟨b,_,rfl,run_takeDeferred h.1,HZ h.2 hf⟩⟩
def nU{g:bg7}{fn:Func}{args:cb bE}{w:bH}{K:bg1}(hm:P.follows .mixedOrders=true)(hf:P.funcs[g]?=some fn)(a:m2 P A fn args.size=true)(h:m1 P τ ρ cz A yl fn args K w):Calls P g args w (cA K):=by
 unfold m1 at h;unfold m2 at a;split at h
 ·rename_i c d;rw[d]at a;simp only[dA]at a;obtain⟨⟨a,i⟩,hn⟩:=a;have b:fn.ntmps<=8000:=by simpa using i
  have f:args.size<=fn.ntmps:=by simpa using hn
  refine(callsIn_wide (n:=0)).1 (callsIn_of_wp_marks (F:=Fence.wide) hf d trivial ?_);refine Bd (r:=none) hm b 1000 c _ _ _ _ _ _ a (eR.of (Rel.init b f)) h (λD e T' w' a' he _ hr=>?_);have key:(shut D w' λw=>iE P τ w T' fn.results.toList #[] λvs=>K (oneOf vs) w)->LeavesInM Fence.wide 0 P fn a'.tmps (cA K) a'.defers .returning w':=λh=>by
   rw[hr.defers];refine HZ h (λw2 h2=>?_);obtain⟨vs,h1,h2⟩:=AJ hr.rel h2;exact⟨_,h1,_,rfl,h2⟩
  cases e with
  |normal=>exact key he
  |ret=>exact key he
  |panic j=>exact he.elim
  |exit id=>exact he.elim
  |goto l=>exact he.elim
  |outgrown=>exact he.elim
 ·exact h.elim
def lf(l:Nat)(f:bg0)(W:bH):Prop:=∃r:Loop,W.heap[l]?=some (.loop r)/\r.state=.ready/\f (W.putObj l (.loop {r with state:=.busy}))
def e2(l:Nat)(j:bW Code)(R:Ending->bg0)(W:bH):Prop:=
 ∃r:Loop,W.heap[l]?=some (.loop r)/\R (.returned (.bool j.isNone)) (W.putObj l (.loop {r with state:=if j.isNone then .ready else .done,pending:=j}))
def nz(l:Nat)(R:Ending->bg0):bA Nat->Exit->Tr->bg0
 |_,.normal,_,w=>e2 l none R w
 |_,.ret,_,w=>e2 l (some .ret) R w
 |_,.exit id,_,w=>e2 l (some (.exit id)) R w
 |_,_,_,_=>False
def mo(P:cP)(τ:cf->K1)(ρ:cf->Kd)(cz:bg7->Bool)(A:dO)(yl:Nat->Bool)(N l:Nat)(assign body:Code)(T:Tr)(W:bH)(R:Ending->bg0):Prop:=
 kz P τ ρ cz A yl N (some l) 1000 assign (λD e a b=>match e with
  |.normal=>lf l (kz P τ ρ cz A yl N (some l) 1000 body (nz l R) D a) b
  |_=>False) [] T W
def lh:Code->bW (Code×Code)
 |.rangeFunc _ _ a b=>some (a,b)
 |.seq x y=>match lh x with
  |some p=>some p
  |none=>lh y
 |.cond _ x y=>match lh x with
  |some p=>some p
  |none=>lh y
 |.block _ c=>lh c
 |_=>none
def j6(c:bW Code):Code:=((c.bind lh).map (·.1)).getD .skip
def j7(c:bW Code):Code:=((c.bind lh).map (·.2)).getD .skip
noncomputable def lj:bA (Tmp×bE)->Tr->Tr
 |[],T=>T
 |(t,v)::l,T=>lj l (T.put (some t) v)
def Vh{l N:Nat}{r:Loop}{args:cb bE}{T:Tr}{W:bH}{R:Ending->bg0}(hm:P.follows .mixedOrders=true)(k:N<=8000)(hl:W.heap[l]?=some (.loop r))(B:args.size=r.params.size)(v:r.tmps.size=N)(j:q6 T r.tmps)(x:∀t∈r.params.toList,t<N)(m:gK P N A r.assign=true)(n:gK P N A r.body=true)(h:mo P τ ρ cz A yl N l r.assign r.body (lj (r.params.zip args).toList T) W R):YieldAt Fence.wide 0 P l args W R:=by
 refine⟨_,_,_,_,run_yield hl B,roundIn_of_wpIn trivial ?_⟩;have o:∀(ps:bA (Tmp×bE)) (g:cb bE) (T:Tr),(∀p∈ps,p.1<N)->g.size=N->q6 T g->
   eR [] N (lj ps T) {tmps:=ps.foldl (λtmps (p:Tmp×bE)=>tmps.setIfInBounds p.1 p.2) g,defers:=[]} :=by
  intro ps;induction ps with
  |nil=>intro g T _ s j;exact⟨rfl,⟨rfl,s,j⟩⟩
  |cons p ps I=>
   intro g T hp s j;have h1:eR [] N T {tmps:=g,defers:=[]} :=⟨rfl,⟨rfl,s,j⟩⟩
   have h2:=h1.put k (d:=some p.1) (λt H=>by cases H;exact hp p (fz ..)) p.2;exact I _ _ (λq G=>hp q (fT _ G)) h2.rel.size h2.rel.get
 have u:=o (r.params.zip args).toList r.tmps T (λp hp=>x p.1 (by
  rw[Array.toList_zip]at hp;exact(List.of_mem_zip (a:=p.1) (b:=p.2) hp).1)) v j
 have hf:(r.params.zip args).foldl (λtmps (p:Tmp×bE)=>tmps.setIfInBounds p.1 p.2) r.tmps=(r.params.zip args).toList.foldl (λtmps (p:Tmp×bE)=>tmps.setIfInBounds p.1 p.2) r.tmps:=by
  rw[Array.foldl_toList]
 rw[<- hf]at u;refine Bd (r:=some l) hm k 1000 _ _ _ _ _ _ _ m u h (λD e L O S he J y=>?_);cases e with
 |normal=>
  obtain⟨V,w,z,he⟩:=he;refine⟨_,run_beginRound w z,?_⟩;refine Bd (r:=some l) hm k 1000 _ _ _ _ _ _ _ n y he (λK F M Q U c _ _=>?_);cases F with
  |normal=>obtain⟨C,f,i⟩:=c;exact⟨_,_,run_endRound none f,i⟩
  |ret=>obtain⟨C,f,i⟩:=c;exact⟨_,_,run_endRound (some .ret) f,i⟩
  |exit id=>obtain⟨C,f,i⟩:=c;exact⟨_,_,run_endRound (some (.exit id)) f,i⟩
  |goto t=>exact c.elim
  |panic E=>exact c.elim
  |outgrown=>exact c.elim
 |exit id=>exact he.elim
 |goto t=>exact he.elim
 |ret=>exact he.elim
 |panic E=>exact he.elim
 |outgrown=>exact he.elim
end
end Go.Vc
namespace Go.Mp
open Go Go.Vc
noncomputable abbrev P:cP:=Go.Proofs.Tryz.prog
abbrev lO:cf:=3
abbrev Vi:cf:=4
abbrev Vj:cf:=5
abbrev Be:cf:=9
abbrev mr:cf:=22
abbrev Bf:cf:=23
abbrev sj:cf:=28
abbrev Bg:cf:=35
abbrev H0:cf:=37
abbrev Vk:cf:=39
abbrev w8:cf:=54
abbrev w9:cf:=60
abbrev Vl:cf:=69
abbrev Bh:cf:=81
abbrev sk:cf:=82
abbrev Bi:cf:=84
abbrev Vn:cf:=97
abbrev Vo:cf:=109
abbrev H2:cf:=117
abbrev Vp:cf:=137
abbrev Bj:cf:=140
abbrev Vq:cf:=179
abbrev H3:cf:=190
abbrev lP:cf:=194
abbrev xa:cf:=239
abbrev xb:cf:=245
abbrev sm:cf:=272
abbrev H4:cf:=276
abbrev xc:cf:=297
abbrev nV:bg7:=13
abbrev H5:bg7:=16
abbrev uB:bg7:=17
abbrev xd:bg7:=18
abbrev uC:bg7:=19
abbrev xe:bg7:=20
abbrev pw:bg7:=21
abbrev H6:bg7:=22
abbrev uD:bg7:=23
abbrev uE:bg7:=24
abbrev Bk:bg7:=26
abbrev H7:bg7:=27
abbrev Bl:bg7:=28
abbrev H8:bg7:=29
abbrev uF:bg7:=30
abbrev Bm:bg7:=32
abbrev Bn:bg7:=34
abbrev xf:bg7:=35
abbrev H9:bg7:=36
abbrev Ia:bg7:=37
abbrev Ib:bg7:=38
abbrev xg:bg7:=39
abbrev Bo:bg7:=40
abbrev px:bg7:=41
abbrev Bp:bg7:=42
abbrev q7:bg7:=43
abbrev Bq:bg7:=44
abbrev uG:bg7:=45
abbrev Br:bg7:=46
abbrev Bs:bg7:=47
abbrev Bt:bg7:=48
abbrev Bu:bg7:=49
abbrev Bv:bg7:=50
abbrev xh:bg7:=51
abbrev xi:bg7:=52
abbrev xj:bg7:=53
abbrev xk:bg7:=54
abbrev xl:bg7:=55
abbrev xm:bg7:=56
abbrev xn:bg7:=57
abbrev xo:bg7:=58
abbrev xp:bg7:=59
abbrev xq:bg7:=60
abbrev xr:bg7:=61
abbrev xt:bg7:=62
abbrev xu:bg7:=63
abbrev xv:bg7:=64
abbrev Ic:bg7:=65
abbrev xw:bg7:=66
abbrev Bw:bg7:=67
abbrev xx:bg7:=68
abbrev sn:bg7:=69
abbrev Bx:bg7:=70
abbrev Ie:bg7:=71
abbrev xy:bg7:=72
abbrev Bz:bg7:=73
abbrev Ig:bg7:=74
abbrev Ih:bg7:=75
abbrev Ii:bg7:=76
abbrev xz:bg7:=77
abbrev Ij:bg7:=78
abbrev j8:bg7:=79
abbrev Ik:bg7:=80
abbrev Il:bg7:=81
abbrev BA:bg7:=82
abbrev Im:bg7:=83
abbrev Io:bg7:=84
abbrev Ip:bg7:=85
abbrev BB:bg7:=86
abbrev xA:bg7:=87
abbrev xB:bg7:=88
abbrev Iq:bg7:=89
abbrev Ir:bg7:=90
abbrev BC:bg7:=91
abbrev BD:bg7:=92
abbrev BE:bg7:=93
abbrev BF:bg7:=94
abbrev It:bg7:=95
abbrev BG:bg7:=96
abbrev Iu:bg7:=97
abbrev Iw:bg7:=98
abbrev Ix:bg7:=99
abbrev Iy:bg7:=100
abbrev Iz:bg7:=101
abbrev uH:bg7:=102
abbrev nX:bg7:=103
abbrev xC:bg7:=105
abbrev so:bg7:=106
abbrev BH:bg7:=107
abbrev IA:bg7:=108
abbrev IB:bg7:=109
abbrev sq:bg7:=110
abbrev IC:bg7:=111
abbrev ID:bg7:=112
abbrev IE:bg7:=113
abbrev IF:bg7:=114
abbrev IG:bg7:=115
abbrev BI:bg7:=116
abbrev IH:bg7:=117
abbrev sr:bg7:=118
abbrev BJ:bg7:=119
abbrev xD:bg7:=120
abbrev ss:bg7:=121
abbrev II:bg7:=122
abbrev q8:bg7:=123
abbrev uI:bg7:=124
abbrev uJ:bg7:=125
abbrev IJ:bg7:=126
abbrev IK:bg7:=127
abbrev xE:bg7:=128
abbrev sv:bg7:=129
abbrev BK:bg7:=130
abbrev IL:bg7:=131
abbrev IM:bg7:=132
abbrev BL:bg7:=133
abbrev BM:bg7:=134
abbrev IN:bg7:=135
abbrev BN:bg7:=136
abbrev BO:bg7:=137
abbrev xF:bg7:=138
abbrev BP:bg7:=139
abbrev IP:bg7:=140
abbrev IQ:bg7:=141
abbrev BQ:bg7:=142
abbrev BR:bg7:=143
abbrev IS:bg7:=144
abbrev xG:bg7:=145
abbrev uK:bg7:=146
abbrev IT:bg7:=147
abbrev BS:bg7:=148
abbrev IU:bg7:=149
abbrev IV:bg7:=150
abbrev IW:bg7:=151
abbrev BT:bg7:=152
abbrev IX:bg7:=153
abbrev BU:bg7:=154
abbrev IY:bg7:=155
abbrev BV:bg7:=156
abbrev ra:bg7:=157
abbrev BW:bg7:=158
abbrev uL:bg7:=159
abbrev BX:bg7:=160
abbrev xH:bg7:=161
abbrev BY:bg7:=164
abbrev sw:bg7:=165
abbrev BZ:bg7:=166
abbrev B0:bg7:=167
abbrev B1:bg7:=168
abbrev B2:bg7:=169
abbrev IZ:bg7:=170
abbrev B3:bg7:=171
abbrev I0:bg7:=172
abbrev xI:bg7:=173
abbrev B4:bg7:=174
abbrev B5:bg7:=175
abbrev I1:bg7:=176
abbrev B6:bg7:=177
abbrev B7:bg7:=178
abbrev B8:bg7:=179
abbrev B9:bg7:=180
abbrev Ca:bg7:=181
abbrev Cb:bg7:=182
abbrev py:bg7:=183
abbrev I2:bg7:=184
abbrev I3:bg7:=185
abbrev Cc:bg7:=186
abbrev Cd:bg7:=187
abbrev uM:bg7:=188
abbrev uN:bg7:=189
abbrev xJ:bg7:=190
abbrev I4:bg7:=191
abbrev Ce:bg7:=192
abbrev I5:bg7:=193
abbrev I6:bg7:=194
abbrev I7:bg7:=195
abbrev xK:bg7:=196
abbrev Cf:bg7:=197
abbrev Cg:bg7:=198
abbrev I8:bg7:=199
abbrev Ch:bg7:=200
abbrev xL:bg7:=201
abbrev I9:bg7:=202
abbrev Ja:bg7:=203
abbrev Ci:bg7:=204
abbrev Cj:bg7:=205
abbrev xM:bg7:=206
abbrev xN:bg7:=207
abbrev Ck:bg7:=208
abbrev Cl:bg7:=209
abbrev Jb:bg7:=210
abbrev sx:bg7:=211
abbrev Jc:bg7:=212
abbrev Cm:bg7:=213
abbrev uO:bg7:=214
abbrev Cn:bg7:=215
abbrev Co:bg7:=216
abbrev Jd:bg7:=217
abbrev Je:bg7:=218
abbrev Cp:bg7:=219
abbrev Cq:bg7:=231
abbrev Cr:bg7:=232
abbrev Ct:bg7:=233
abbrev Cu:bg7:=234
abbrev uP:bg7:=235
abbrev Cv:bg7:=236
abbrev Cw:bg7:=237
abbrev xO:bg7:=238
abbrev Jf:bg7:=239
abbrev Jg:bg7:=240
abbrev Cx:bg7:=241
abbrev Cy:bg7:=242
abbrev Vr:bg7:=243
abbrev xP:bg7:=244
abbrev uQ:bg7:=245
abbrev Jh:bg7:=246
abbrev Cz:bg7:=247
abbrev Ji:bg7:=248
abbrev CA:bg7:=249
abbrev Jj:bg7:=250
abbrev Jk:bg7:=251
abbrev Jl:bg7:=252
abbrev Jm:bg7:=253
abbrev Jn:bg7:=254
abbrev Jo:bg7:=255
abbrev Jp:bg7:=256
abbrev CB:bg7:=257
abbrev Jq:bg7:=258
abbrev CC:bg7:=259
abbrev Jr:bg7:=260
abbrev Js:bg7:=261
abbrev xQ:bg7:=262
abbrev CD:bg7:=263
abbrev Jt:bg7:=264
abbrev CE:bg7:=265
abbrev CF:bg7:=266
abbrev CG:bg7:=272
abbrev uR:bg7:=273
abbrev sy:bg7:=274
abbrev Vt:bg7:=275
abbrev Ju:bg7:=276
abbrev CH:bg7:=277
abbrev xR:bg7:=278
abbrev Jv:bg7:=279
abbrev Jw:bg7:=280
abbrev sA:bg7:=281
abbrev uS:bg7:=282
abbrev CI:bg7:=283
abbrev xS:bg7:=284
abbrev Jx:bg7:=285
abbrev CJ:bg7:=286
abbrev Jy:bg7:=287
abbrev Jz:bg7:=288
abbrev JA:bg7:=289
abbrev JB:bg7:=290
abbrev CK:bg7:=291
abbrev CL:bg7:=292
abbrev JC:bg7:=293
abbrev CM:bg7:=294
abbrev CN:bg7:=296
abbrev uT:bg7:=297
abbrev CO:bg7:=298
abbrev uU:bg7:=299
abbrev JD:bg7:=300
abbrev CP:bg7:=301
abbrev CQ:bg7:=302
abbrev JF:bg7:=303
abbrev Vu:bg7:=304
abbrev Vv:bg7:=305
abbrev JG:bg7:=306
abbrev JH:bg7:=307
abbrev JI:bg7:=308
abbrev xT:bg7:=309
abbrev xU:bg7:=310
noncomputable abbrev CR:Checked:=Go.Proofs.Tryz.checked
noncomputable abbrev m3:Func:=f13
def CS:P.funcs[nV]?=some m3:=func13
def cm:K1:=.one .raw
def ij:K1:=.one .ptr
def lQ:K1:=.one .slice
def pz:K1:=.agg [.int .i64,.int .i64]
def pA:K1:=.one .map
def rb:K1:=.one (.int .i64)
def xV:K1:=.one (.int .u8)
def xW:K1:=.one (.int .u64)
def xX:K1:=.agg [.ptr]
def xY:K1:=.agg [.int .i64,.int .i64,.bool]
def xZ:K1:=.agg [.slice]
def x0:K1:=.agg [.ptr,.ptr,.ptr,.ptr,.ptr,.ptr,.ptr,.ptr,.ptr,.ptr,.ptr,.ptr,.ptr,.ptr,.ptr,.ptr,.int .u64,.int .u64,.int .u64,.int .u64,.int .u64,.int .u64,.int .u64,.int .u64,.int .u64,.int .u64,.int .u64,.int .u64,.int .u64,.int .u64,.int .u64,.int .u64,.int .u16]
def CT:K1:=.one (.int .i32)
def JJ:K1:=.agg [.int .i64,.int .i64,.bool,.int .u8]
def JK:K1:=.agg [.str,.int .u64]
def JL:K1:=.agg [.int .i64,.int .i64,.slice]
def JM:K1:=.agg [.int .i64,.int .i64,.int .i64,.int .i64,.int .i64]
def JN:K1:=.agg [.int .i64,.int .i64,.int .i64,.int .i64,.int .i64,.int .i64,.int .i64,.bool,.bool]
def JO:K1:=.agg [.ptr,.ptr,.ptr]
def JP:K1:=.agg [.ptr,.ptr,.ptr,.ptr,.ptr,.ptr,.ptr,.ptr,.ptr,.ptr,.ptr,.map,.slice,.slice]
def JQ:K1:=.agg [.int .i64,.int .i64,.int .i64,.int .i64,.int .i64,.ptr,.ptr,.int .i64,.int .i64,.slice]
def JR:K1:=.agg [.int .i64,.ptr]
def JS:K1:=.agg [.int .i64,.int .i64,.int .i64,.int .i64]
def JT:K1:=.agg [.map,.map,.map,.int .i64]
def JU:K1:=.agg [.int .i64,.int .i64,.bool,.bool]
def JV:K1:=.agg [.int .i64,.bool]
def JW:K1:=.agg [.slice,.map,.int .i64]
def JX:K1:=.agg [.int .i64,.int .i64,.int .i64,.int .i64,.int .i64,.bool]
def JY:K1:=.agg [.int .i64,.slice]
def JZ:K1:=.agg [.int .i64,.int .i64,.int .i64]
def J0:K1:=.agg [.int .i64,.int .u64]
def J1:K1:=.agg [.ptr,.ptr,.ptr,.str]
def J2:K1:=.agg [.int .u64,.int .u64,.int .u32,.int .u8,.int .u8,.int .u8,.int .u8,.raw,.ptr,.int .i32,.int .i32]
def uV:bA K1:=[cm,cm,rb,rb,.one .bool,xV,xV,JJ,JJ,.one .str,.one .str,.one .str,xW,JK,JK,ij,ij,ij,xX,xX,cm,CT,lQ,lQ,cm,cm,ij,cm,ij,cm,cm,rb,JL,JL,cm,rb,JM,JM,cm,lQ,cm,xY,xY,ij,cm,cm,cm,cm,cm,cm,cm,cm,cm,pz,pz,rb,JN,JN,cm,cm,lQ,cm,ij,cm,cm,cm,cm,cm,cm,lQ,.agg [.ptr,.slice],.agg [.ptr,.slice],ij,ij,ij,JO,JO,ij,ij,ij,ij,pA,lQ,JP,JP,cm,pA,cm,cm,pA,cm,ij,JQ,JQ,JR,JR,cm,lQ,xZ,xZ,cm,cm,cm,cm,cm,cm,JS,JS,cm,lQ,ij,.agg [.slice,.ptr],.agg [.slice,.ptr],cm,cm,cm,cm,pA,ij,pA,pA,JT,JT,rb,JU,JU,cm,cm,ij,xX,xX,cm,JV,JV,cm,cm,cm,pA,JW,JW,pA,.agg [.map],.agg [.map],pz,pz,cm,cm,cm,cm,cm,cm,cm,cm,cm,cm,cm,cm,cm,cm,cm,cm,JX,JX,cm,cm,cm,cm,cm,cm,cm,cm,cm,cm,cm,xW,cm,cm,cm,cm,lQ,JY,JY,cm,cm,cm,lQ,xZ,xZ,xY,xY,.agg [.ptr,.ptr],cm,ij,cm,lQ,cm,cm,cm,cm,cm,cm,cm,xW,cm,cm,cm,cm,cm,cm,cm,cm,cm,cm,cm,cm,cm,cm,cm,cm,cm,ij,.agg [.ptr,.ptr,.ptr,.ptr,.ptr,.ptr,.ptr,.ptr,.ptr,.ptr,.ptr,.ptr,.ptr,.ptr,.ptr,.ptr],.arr 16 .u64,.one (.int .u16),x0,x0,x0,x0,cm,cm,cm,cm,cm,cm,cm,cm,cm,cm,pz,pz,cm,cm,cm,cm,cm,lQ,JZ,JZ,cm,cm,cm,cm,cm,cm,cm,cm,cm,cm,cm,cm,cm,cm,cm,cm,cm,cm,ij,cm,cm,cm,cm,cm,lQ,cm,cm,pz,pz,cm,rb,cm,cm,cm,cm,cm,cm,.one (.int .u32),cm,cm,cm,.agg [.bool,.bool,.bool,.bool,.bool,.bool,.bool,.bool,.bool,.bool,.bool,.bool,.bool,.bool,.bool,.bool,.bool,.bool,.bool,.bool,.bool,.bool,.bool,.bool,.bool,.bool,.bool,.bool,.bool,.bool,.bool,.bool,.bool,.bool,.bool,.bool,.bool,.bool,.bool,.bool,.bool,.bool,.bool,.bool,.bool,.bool,.bool,.bool,.bool,.bool,.bool,.bool,.bool,.bool,.bool,.bool,.bool,.bool,.bool,.bool,.bool,.bool,.bool,.bool],cm,cm,cm,cm,cm,cm,cm,lQ,cm,cm,cm,J0,J0,cm,cm,cm,cm,cm,cm,cm,cm,cm,cm,cm,cm,cm,cm,cm,.arr 16 .u8,.arr 16 .u8,cm,cm,xW,cm,cm,cm,ij,cm,cm,cm,cm,cm,cm,cm,cm,cm,cm,cm,cm,cm,cm,cm,cm,cm,cm,ij,cm,cm,cm,cm,cm,cm,ij,cm,cm,.arr 64 .u8,cm,J1,J1,.agg [],.agg [],.agg [],xV,xV,cm,ij,CT,CT,J2,J2,cm]
def fF(t:cf):K1:=uV.getD t (.one .raw)
def CU:Kd:=.je [.one (.int .i64),.one (.int .i64)]
def J3:Kd:=.je [.one .slice,.one (.int .i64)]
def CV:bA Kd:=(uV.take 371).map .k|>.set 0 (.je [])|>.set 58 (.je [.agg [.int .i64,.int .i64,.int .i64,.int .i64,.int .i64,.int .i64,.int .i64,.bool,.bool],.one (.int .i64)])|>.set 65 CU|>.set 126 (.je [.agg [.int .i64,.int .i64,.bool,.bool],.one .bool])|>.set 152 CU|>.set 164 (.je [.one (.int .i64),.agg [.int .i64,.int .i64,.int .i64,.int .i64,.int .i64,.bool],.one .bool])|>.set 166 (.je [.one (.int .i64),.one .bool])|>.set 168 (.je [.one (.int .u8),.one (.int .i64)])|>.set 175 (.je [.one (.int .u64),.one .bool])|>.set 177 (.je [.agg [.int .i64,.int .i64,.bool,.bool],.one (.int .i64)])|>.set 199 J3|>.set 203 (.je [.agg [.int .i64,.int .i64,.int .i64,.int .i64,.int .i64,.bool],.one .bool])|>.set 206 (.je [.one (.int .i64),.one (.int .i64),.one (.int .i64)])|>.set 231 J3|>.set 261 (.je [.one .str,.one (.int .i64)])|>.set 268 (.je [.agg [.int .i64,.int .i64],.one .bool])|>.set 279 CU|>.set 298 (.je [.one (.int .u64),.one (.int .u64)])|>.set 314 (.je [.one .str,.one .bool])|>.set 316 (.je [.one (.int .u64),.one (.int .i64)])|>.set 336 (.je [.one (.int .i64),.one (.int .i64),.one .bool])|>.set 343 (.je [.one (.int .i64),.one (.int .u64)])
def gL(t:cf):Kd:=CV.getD t (.k (.one .raw))
abbrev pe(v:bE):PanicEntry:={v:=v,recovered:=false}
def cz(f:bg7):Bool:=[].contains f
def mixed:P.follows .mixedOrders=true:=Checked.mixed Go.Proofs.Tryz.checked
end Go.Mp
namespace Go
abbrev Iv(n:Int):bE:=.int .i64 n
abbrev Sv(s:Vc.Sl):bE:=.slice s.p s.n s.c
abbrev Pv(a:ch):bE:=.pointer a
abbrev Pb(b:Nat):bE:=.pointer (some ⟨b,0,none⟩)
end Go
namespace Go.Mp
open Go Go.Vc
def bM(A:dO){g:bg7}{fn:Func}(args:cb bE)(K:bg1)(w:bH){S:Prop}(hf:P.funcs[g]?=some fn)(h:S)(a:k5 P A fn args.size=true:=by kernel_rfl)(b:km P fF gL cz A fn args K (λ_ _=>False) w=S:=by kernel_rfl):Calls P g args w (cA K):=
 AK mixed hf a (by rw[b];exact h)
def z8(q:bA Nat:=[])(s:bA (Nat×bA (bA Nat)×bA Nat):=[])(l j:bA (Nat×bA (Nat×C1)):=[]):dO:={quiet:=λd=>q.contains d,sig:=λr=>s.lookup r,loop:=λr=>(l.lookup r).getD [],join:=λr=>j.lookup r}
abbrev jQ:=List.range
abbrev jZ:=C1.int .i64
def qQ(f:bg7)(a:cb bE)(w:bH)(g:Int->bg0):Prop:=Calls P f a w λe w2=>∃a0,e=.returned (Iv a0)/\g a0 w2
def qZ(w:bH)(a:Addr)(n:Nat)(g:ch->Prop):Prop:=∃x,w.cell? (a.add n)=some (Pv x)/\g x
def qJ(f:bg7)(a:cb bE)(w:bH)(g:Sl->bg0):Prop:=Calls P f a w λe w2=>∃a0,e=.returned (Sv a0)/\g a0 w2
def qX(f:bg7)(a:cb bE)(w:bH)(g:Int->Int->Int->Int->Int->Int->Int->Bool->Bool->Int->bg0):Prop:=Calls P f a w λe w2=>∃a0,∃b,∃c,∃a3,∃a4,∃a5,∃d,∃h,∃i,∃a9,e=.returned (.tuple #[.agg #[Iv a0,Iv b,Iv c,Iv a3,Iv a4,Iv a5,Iv d,.bool h,.bool i],Iv a9])/\g a0 b c a3 a4 a5 d h i a9 w2
def qY(w:bH)(a:Addr)(g:Int->Int->Int->Int->Int->Int->Int->Bool->Bool->Prop):Prop:=∃a0,w.cell? (a.add 0)=some (Iv a0)/\∃b,w.cell? (a.add 1)=some (Iv b)/\∃c,w.cell? (a.add 2)=some (Iv c)/\∃a3,w.cell? (a.add 3)=some (Iv a3)/\∃a4,w.cell? (a.add 4)=some (Iv a4)/\∃a5,w.cell? (a.add 5)=some (Iv a5)/\∃d,w.cell? (a.add 6)=some (Iv d)/\∃e,w.cell? (a.add 7)=some (.bool e)/\∃f,w.cell? (a.add 8)=some (.bool f)/\g a0 b c a3 a4 a5 d e f
def qV(w:bH)(g:Addr->bg0):Prop:=Al (.cells #[Iv 0,Iv 0,Iv 0,Iv 0,Iv 0,Iv 0,Iv 0,.bool false,.bool false] 57) g w
def qU(l:bA bE)(a:Addr)(w:bH)(g:bg0):Prop:=kM l a g w
def qK(w:bH)(a:Addr)(n:Nat)(g:Sl->Prop):Prop:=∃x,w.cell? (a.add n)=some (Sv x)/\g x
def qG(w:bH)(a:Addr)(n:Nat)(v:bE)(g:ch->Prop):Prop:=∃x,w.cell? (a.add n)=some (Pv x)/\(Pv x)=v/\g x
def qH(f:bg7)(a:cb bE)(w:bH)(g:Int->Int->Int->Int->bg0):Prop:=Calls P f a w λe w2=>∃a0,∃b,∃c,∃a3,e=.returned (.agg #[Iv a0,Iv b,Iv c,Iv a3])/\g a0 b c a3 w2
def qN(f:bg7)(a:cb bE)(w:bH)(g:bg1):Prop:=Calls P f a w λe w2=>∃a0,e=.returned a0/\g a0 w2
def qM(w:bH)(a:Addr)(n:Nat)(g:bW Nat->Prop):Prop:=∃x,w.cell? (a.add n)=some (.map x)/\g x
def qR(f:bg7)(a:cb bE)(w:bH)(g:ch->bg0):Prop:=Calls P f a w λe w2=>∃a0,e=.returned (Pv a0)/\g a0 w2
def qP(w:bH)(a:Addr)(g:ch->ch->ch->Prop):Prop:=∃a0,w.cell? (a.add 0)=some (Pv a0)/\∃b,w.cell? (a.add 1)=some (Pv b)/\∃c,w.cell? (a.add 2)=some (Pv c)/\g a0 b c
def qO(a0:Int)(w:bH)(g:(Int->bg0)->Int->bg0):Prop:=∃(b:Int->bg0) (M:Int->bH->Nat),b a0 w/\∀_:Nat->bE,∀b0,∀w,b b0 w->g (λa v=>b a v/\M a v<M b0 w) b0 w
def qD(w:bH)(a:Addr)(g:Int->Prop):Prop:=∃x,w.cell? a=some (Iv x)/\g x
def qC(a:cb bE)(w:bH)(g:Addr->bg0):Prop:=Al (.cells a 3) g w
def qB(w:bH)(g:Addr->bg0):Prop:=Al (.cells #[Iv 0,Iv 0,Iv 0,Iv 0,Iv 0,Iv 0,Iv 0,Iv 0,Iv 0,Iv 0,Iv 0,Iv 0,Iv 0,Iv 0,Iv 0,Iv 0,Iv 0,Iv 0,Iv 0,Iv 0,Iv 0,Iv 0,Iv 0,Iv 0,Iv 0,Iv 0,Iv 0,Iv 0,Iv 0,Iv 0,Iv 0,Iv 0,Iv 0,Iv 0,Iv 0,Iv 0,Iv 0,Iv 0,Iv 0,Iv 0,Iv 0,Iv 0,Iv 0,Iv 0,Iv 0,Iv 0,Iv 0,Iv 0,Iv 0,Iv 0,Iv 0,Iv 0,Iv 0,Iv 0,Iv 0,Iv 0,Iv 0,Iv 0,Iv 0,Iv 0,Iv 0,Iv 0,Iv 0,Iv 0,Iv 0,Iv 0,Iv 0,Iv 0,Iv 0,Iv 0,Iv 0,Iv 0,Iv 0,Iv 0,Iv 0,Iv 0,Iv 0,Iv 0,Iv 0,Iv 0,Iv 0,Iv 0,Iv 0,Iv 0,Iv 0,Iv 0,Iv 0,Iv 0,Iv 0,Iv 0,Iv 0,Iv 0,Iv 0,Iv 0,Iv 0,Iv 0,Iv 0,Iv 0,Iv 0,Iv 0,Iv 0,Iv 0,Iv 0,Iv 0,Iv 0,Iv 0,Iv 0,Iv 0,Iv 0,Iv 0,Iv 0,Iv 0,Iv 0,Iv 0,Iv 0,Iv 0,Iv 0,Iv 0,Iv 0,Iv 0,Iv 0,Iv 0,Iv 0,Iv 0,Iv 0,Iv 0,Iv 0,Iv 0] 147) g w
def qF(f:bg7)(a:cb bE)(w:bH)(g:Bool->bg0):Prop:=Calls P f a w λe w2=>∃a0,e=.returned (.bool a0)/\g a0 w2
def qA(w:bH)(a:Addr)(g:Int->Int->Int->Int->Prop):Prop:=∃a0,w.cell? (a.add 0)=some (Iv a0)/\∃b,w.cell? (a.add 1)=some (Iv b)/\∃c,w.cell? (a.add 2)=some (Iv c)/\∃a3,w.cell? (a.add 3)=some (Iv a3)/\g a0 b c a3
def qE(f:bg7)(a:cb bE)(w:bH)(g:bg0):Prop:=Calls P f a w λe w2=>e=.returned (.tuple #[])/\g w2
def qL(w:bH)(a:Addr)(n:Nat)(g:Int->Prop):Prop:=∃x,w.cell? (a.add n)=some (Iv x)/\g x
def qI(a0 d:Int)(w:bH)(g:(Int->Int->bg0)->Int->Int->bg0):Prop:=∃(c:Int->Int->bg0) (M:Int->Int->bH->Nat),c a0 d w/\∀_:Nat->bE,∀b0 b1,∀w,c b0 b1 w->g (λa b v=>c a b v/\M a b v<M b0 b1 w) b0 b1 w
def qW(l:Sl)(i:Int)(k:Nat)(g:Addr->Prop):Prop:=cM l.p l.n i k g
def qz(w:bH)(g:Addr->bg0):Prop:=Al (.cells #[Iv 0,Iv 0,Iv 0,Iv 0,Iv 0,Iv 0,Iv 0,Iv 0,Iv 0,Iv 0,Iv 0,Iv 0,Iv 0,Iv 0,Iv 0,Iv 0,Iv 0,Iv 0,Iv 0,Iv 0,Iv 0,Iv 0,Iv 0,Iv 0,Iv 0,Iv 0,Iv 0,Iv 0,Iv 0,Iv 0,Iv 0,Iv 0,Iv 0,Iv 0,Iv 0,Iv 0,Iv 0,Iv 0,Iv 0,Iv 0,Iv 0,Iv 0,Iv 0,Iv 0,Iv 0,Iv 0,Iv 0,Iv 0,Iv 0,Iv 0,Iv 0,Iv 0,Iv 0,Iv 0,Iv 0,Iv 0,Iv 0,Iv 0,Iv 0,Iv 0,Iv 0,Iv 0,Iv 0,Iv 0,Iv 0,Iv 0,Iv 0,Iv 0,Iv 0,Iv 0,Iv 0,Iv 0,Iv 0,Iv 0,Iv 0,Iv 0,Iv 0,Iv 0,Iv 0,Iv 0,Iv 0,Iv 0,Iv 0,Iv 0,Iv 0,Iv 0,Iv 0,Iv 0,Iv 0,Iv 0,Iv 0,Iv 0,Iv 0,Iv 0,Iv 0,Iv 0,Iv 0,Iv 0,Iv 0,Iv 0,Iv 0,Iv 0,Iv 0,Iv 0,Iv 0,Iv 0,Iv 0,Iv 0,Iv 0,Iv 0,Iv 0,Iv 0,Iv 0,Iv 0,Iv 0,Iv 0,Iv 0,Iv 0,Iv 0,Iv 0,Iv 0,Iv 0,Iv 0,Iv 0,Iv 0,Iv 0,Iv 0,Iv 0,Iv 0,Iv 0,Iv 0,Iv 0,Iv 0,Iv 0,Iv 0,Iv 0,Iv 0,Iv 0,Iv 0,Iv 0,Iv 0,Iv 0,Iv 0,Iv 0,Iv 0,Iv 0,Iv 0,Iv 0,Iv 0,Iv 0,Iv 0,Iv 0,Iv 0,Iv 0,Iv 0,Iv 0,Iv 0,Iv 0,Iv 0,Iv 0,Iv 0,Iv 0,Iv 0,Iv 0,Iv 0,Iv 0,Iv 0,Iv 0,Iv 0,Iv 0,Iv 0,Iv 0,Iv 0,Iv 0,Iv 0,Iv 0,Iv 0,Iv 0,Iv 0,Iv 0,Iv 0,Iv 0,Iv 0,Iv 0,Iv 0,Iv 0,Iv 0,Iv 0,Iv 0,Iv 0,Iv 0,Iv 0,Iv 0,Iv 0,Iv 0,Iv 0,Iv 0,Iv 0,Iv 0,Iv 0,Iv 0,Iv 0,Iv 0,Iv 0,Iv 0,Iv 0,Iv 0,Iv 0,Iv 0,Iv 0,Iv 0,Iv 0,Iv 0,Iv 0,Iv 0,Iv 0,Iv 0,Iv 0,Iv 0,Iv 0,Iv 0,Iv 0,Iv 0,Iv 0,Iv 0,Iv 0,Iv 0,Iv 0,Iv 0,Iv 0,Iv 0,Iv 0,Iv 0,Iv 0,Iv 0,Iv 0,Iv 0,Iv 0,Iv 0,Iv 0,Iv 0,Iv 0,Iv 0,Iv 0,Iv 0,Iv 0,Iv 0,Iv 0,Iv 0,Iv 0,Iv 0,Iv 0,Iv 0,Iv 0,Iv 0,Iv 0] 151) g w
def qj(f:bg7)(a:cb bE)(w:bH)(g:Int->Int->bg0):Prop:=Calls P f a w λe w2=>∃a0,∃b,e=.returned (.tuple #[Iv a0,Iv b])/\g a0 b w2
def qx(w:bH)(g:Addr->bg0):Prop:=Al (.cells #[Iv 0,Iv 0,.bool false] 189) g w
def qy(w:bH)(a:Addr)(n:Nat)(g:Bool->Prop):Prop:=∃x,w.cell? (a.add n)=some (.bool x)/\g x
def qg(f:(bg0)->Prop)(g:bg0):Prop:=∃J,f J/\∀_:Nat->bE,∀w,J w->g w
def qh(f:(Bool->bg0)->Prop)(g:Bool->bg0):Prop:=∃J,f J/\∀_:Nat->bE,∀b0 w,J b0 w->g b0 w
def qm(w:bH)(a:Addr)(g:Bool->Prop):Prop:=∃x,w.cell? a=some (.bool x)/\g x
def qp(f:bg7)(a:cb bE)(w:bH)(g:Int->Bool->bg0):Prop:=Calls P f a w λe w2=>∃a0,∃b,e=.returned (.tuple #[Iv a0,.bool b])/\g a0 b w2
def qo(f:bg7)(a:cb bE)(w:bH)(g:Int->Int->bg0):Prop:=Calls P f a w λe w2=>∃a0,∃b,e=.returned (.tuple #[.int .u8 a0,Iv b])/\g a0 b w2
def qd(w:bH)(g:(bg0)->bg0):Prop:=∃(a:bg0) (M:bH->Nat),a w/\∀_:Nat->bE,∀w,a w->g (λv=>a v/\M v<M w) w
def qc(w:bH)(a:Addr)(g:Sl->Prop):Prop:=∃x,w.cell? a=some (Sv x)/\g x
def qb(w:bH)(a:Addr)(g:ch->Prop):Prop:=∃x,w.cell? a=some (Pv x)/\g x
def qf(a0:Sl)(d:Int)(w:bH)(g:(Sl->Int->bg0)->Sl->Int->bg0):Prop:=∃(c:Sl->Int->bg0) (M:Sl->Int->bH->Nat),c a0 d w/\∀_:Nat->bE,∀b0 b1,∀w,c b0 b1 w->g (λa b v=>c a b v/\M a b v<M b0 b1 w) b0 b1 w
def qa(w:bH)(a:Addr)(g:Int->Int->Bool->Prop):Prop:=∃a0,w.cell? (a.add 0)=some (Iv a0)/\∃b,w.cell? (a.add 1)=some (Iv b)/\∃c,w.cell? (a.add 2)=some (.bool c)/\g a0 b c
def ql(w:bH)(a:Addr)(g:Int->Int->Int->Prop):Prop:=∃a0,w.cell? (a.add 0)=some (Iv a0)/\∃b,w.cell? (a.add 1)=some (Iv b)/\∃c,w.cell? (a.add 2)=some (Iv c)/\g a0 b c
def qi(w:bH)(g:Addr->bg0):Prop:=Al (.cells #[Iv 0,Iv 0,Iv 0] 247) g w
def qw(w:bH)(g:Addr->bg0):Prop:=Al (.cells #[Iv 0,Iv 0] 239) g w
def q9(f:(Int->bg0)->Prop)(g:Int->bg0):Prop:=∃J,f J/\∀_:Nat->bE,∀b0 w,J b0 w->g b0 w
def zQ(f:bg7)(a:cb bE)(w:bH)(g:ByteArray->Int->bg0):Prop:=Calls P f a w λe w2=>∃a0,∃b,e=.returned (.tuple #[.string a0,Iv b])/\g a0 b w2
def zZ(w:bH)(a:Addr)(g:Int->Int->Prop):Prop:=∃a0,w.cell? (a.add 0)=some (Iv a0)/\∃b,w.cell? (a.add 1)=some (Iv b)/\g a0 b
def zJ(f:bg7)(a:cb bE)(w:bH)(g:ByteArray->bg0):Prop:=Calls P f a w λe w2=>∃a0,e=.returned (.string a0)/\g a0 w2
def zX(f:bg7)(a:cb bE)(w:bH)(g:Int->Int->Int->bg0):Prop:=Calls P f a w λe w2=>∃a0,∃b,∃c,e=.returned (.tuple #[Iv a0,Iv b,Iv c])/\g a0 b c w2
def zY(a:cb bE)(w:bH)(g:Addr->bg0):Prop:=Al (.cells a 162) g w
def zV(a0:Int)(e:Sl)(f:Int)(w:bH)(g:(Int->Sl->Int->bg0)->Int->Sl->Int->bg0):Prop:=∃(d:Int->Sl->Int->bg0) (M:Int->Sl->Int->bH->Nat),d a0 e f w/\∀_:Nat->bE,∀b0 b1 b2,∀w,d b0 b1 b2 w->g (λa b c v=>d a b c v/\M a b c v<M b0 b1 b2 w) b0 b1 b2 w
def zU(f:bg7)(a:cb bE)(w:bH)(g:Int->bg0):Prop:=Calls P f a w λe w2=>∃a0,e=.returned (.int .u64 a0)/\g a0 w2
def zK(w:bH)(g:Addr->bg0):Prop:=Al (.cells #[.bool false,.bool false,.bool false,.bool false,.bool false,.bool false,.bool false,.bool false,.bool false,.bool false,.bool false,.bool false,.bool false,.bool false,.bool false,.bool false,.bool false,.bool false,.bool false,.bool false,.bool false,.bool false,.bool false,.bool false,.bool false,.bool false,.bool false,.bool false,.bool false,.bool false,.bool false,.bool false,.bool false,.bool false,.bool false,.bool false,.bool false,.bool false,.bool false,.bool false,.bool false,.bool false,.bool false,.bool false,.bool false,.bool false,.bool false,.bool false,.bool false,.bool false,.bool false,.bool false,.bool false,.bool false,.bool false,.bool false,.bool false,.bool false,.bool false,.bool false,.bool false,.bool false,.bool false,.bool false] 289) g w
def zG(w:bH)(a:Addr)(v:bE)(g:Int->Prop):Prop:=∃x,w.cell? a=some (Iv x)/\(Iv x)=v/\g x
def zH(w:bH)(a:Addr)(n:Nat)(v:bE)(g:Int->Prop):Prop:=∃x,w.cell? (a.add n)=some (Iv x)/\(Iv x)=v/\g x
def zT(a0:Sl)(e f:Int)(w:bH)(g:(Sl->Int->Int->bg0)->Sl->Int->Int->bg0):Prop:=∃(d:Sl->Int->Int->bg0) (M:Sl->Int->Int->bH->Nat),d a0 e f w/\∀_:Nat->bE,∀b0 b1 b2,∀w,d b0 b1 b2 w->g (λa b c v=>d a b c v/\M a b c v<M b0 b1 b2 w) b0 b1 b2 w
def zN(f:bg7)(a:cb bE)(w:bH)(g:Int->Int->bg0):Prop:=Calls P f a w λe w2=>∃a0,∃b,e=.returned (.tuple #[.int .u64 a0,.int .u64 b])/\g a0 b w2
def zM(w:bH)(a:Addr)(g:Int->Int->Prop):Prop:=∃a0,w.cell? (a.add 0)=some (Iv a0)/\∃b,w.cell? (a.add 1)=some (.int .u64 b)/\g a0 b
def zS(w:bH)(a:Addr)(n:Nat)(v:bE)(g:bW Nat->Prop):Prop:=∃x,w.cell? (a.add n)=some (.map x)/\(.map x)=v/\g x
def zR(w:bH)(a:Addr)(g:Int->Int->Int->Int->Int->Bool->Prop):Prop:=∃a0,w.cell? (a.add 0)=some (Iv a0)/\∃b,w.cell? (a.add 1)=some (Iv b)/\∃c,w.cell? (a.add 2)=some (Iv c)/\∃a3,w.cell? (a.add 3)=some (Iv a3)/\∃a4,w.cell? (a.add 4)=some (Iv a4)/\∃a5,w.cell? (a.add 5)=some (.bool a5)/\g a0 b c a3 a4 a5
def zP(f:(Int->Int->bg0)->Prop)(g:Int->Int->bg0):Prop:=∃J,f J/\∀_:Nat->bE,∀b0 b1 w,J b0 b1 w->g b0 b1 w
def zO(f:bg7)(a:cb bE)(w:bH)(g:Int->Int->Bool->bg0):Prop:=Calls P f a w λe w2=>∃a0,∃b,∃c,e=.returned (.tuple #[Iv a0,Iv b,.bool c])/\g a0 b c w2
def zD(w:bH)(g:Addr->bg0):Prop:=Al (.cells #[.int .u8 0,.int .u8 0,.int .u8 0,.int .u8 0,.int .u8 0,.int .u8 0,.int .u8 0,.int .u8 0,.int .u8 0,.int .u8 0,.int .u8 0,.int .u8 0,.int .u8 0,.int .u8 0,.int .u8 0,.int .u8 0] 318) g w
def zC(f:bg7)(a:cb bE)(w:bH)(g:Int->Int->bg0):Prop:=Calls P f a w λe w2=>∃a0,∃b,e=.returned (.tuple #[Iv a0,.int .u64 b])/\g a0 b w2
def zB(f:bg7)(a:cb bE)(w:bH)(g:Int->Int->bg0):Prop:=Calls P f a w λe w2=>∃a0,∃b,e=.returned (.tuple #[.int .u64 a0,Iv b])/\g a0 b w2
def zF(f:bg7)(a:cb bE)(w:bH)(g:Sl->Int->bg0):Prop:=Calls P f a w λe w2=>∃a0,∃b,e=.returned (.tuple #[Sv a0,Iv b])/\g a0 b w2
def zA(a0 e f:Int)(w:bH)(g:(Int->Int->Int->bg0)->Int->Int->Int->bg0):Prop:=∃(d:Int->Int->Int->bg0) (M:Int->Int->Int->bH->Nat),d a0 e f w/\∀_:Nat->bE,∀b0 b1 b2,∀w,d b0 b1 b2 w->g (λa b c v=>d a b c v/\M a b c v<M b0 b1 b2 w) b0 b1 b2 w
def zL(w:bH)(a:Addr)(g:Int->Int->Int->Int->Int->Prop):Prop:=∃a0,w.cell? (a.add 0)=some (Iv a0)/\∃b,w.cell? (a.add 1)=some (Iv b)/\∃c,w.cell? (a.add 2)=some (Iv c)/\∃a3,w.cell? (a.add 3)=some (Iv a3)/\∃a4,w.cell? (a.add 4)=some (Iv a4)/\g a0 b c a3 a4
def zI(w:bH)(a:Addr)(g:Int->Int->Sl->Prop):Prop:=∃a0,w.cell? (a.add 0)=some (Iv a0)/\∃b,w.cell? (a.add 1)=some (Iv b)/\∃c,w.cell? (a.add 2)=some (Sv c)/\g a0 b c
def zW(w:bH)(g:Addr->bg0):Prop:=Al (.cells #[Iv 0,Iv 0,aN8] 33) g w
def zq(w:bH)(a:Addr)(g:Int->ch->Prop):Prop:=∃a0,w.cell? (a.add 0)=some (Iv a0)/\∃b,w.cell? (a.add 1)=some (Pv b)/\g a0 b
def zz(w:bH)(g:Addr->bg0):Prop:=Al (.cells #[Iv 0,Iv 0,.bool false] 42) g w
def zx(f:bg7)(a:cb bE)(w:bH)(g:Int->Int->Sl->bg0):Prop:=Calls P f a w λe w2=>∃a0,∃b,∃c,e=.returned (.agg #[Iv a0,Iv b,Sv c])/\g a0 b c w2
def zy(f:bg7)(a:cb bE)(w:bH)(g:Int->Int->Bool->Bool->Bool->bg0):Prop:=Calls P f a w λe w2=>∃a0,∃b,∃c,∃a3,∃a4,e=.returned (.tuple #[.agg #[Iv a0,Iv b,.bool c,.bool a3],.bool a4])/\g a0 b c a3 a4 w2
def zu(w:bH)(g:Addr->bg0):Prop:=Al (.cells #[Iv 0,Iv 0,.bool false,.bool false] 125) g w
def zk(f:bg7)(a:cb bE)(w:bH)(g:Int->Int->Int->Int->Int->Int->Bool->Bool->bg0):Prop:=Calls P f a w λe w2=>∃a0,∃b,∃c,∃a3,∃a4,∃a5,∃d,∃h,e=.returned (.tuple #[Iv a0,.agg #[Iv b,Iv c,Iv a3,Iv a4,Iv a5,.bool d],.bool h])/\g a0 b c a3 a4 a5 d h w2
def zg(w:bH)(g:Addr->bg0):Prop:=Al (.cells #[Iv 0,Iv 0,Iv 0,Iv 0,Iv 0,.bool false] 162) g w
def zh(f:bg7)(a:cb bE)(w:bH)(g:Int->Bool->bg0):Prop:=Calls P f a w λe w2=>∃a0,∃b,e=.returned (.tuple #[.int .u64 a0,.bool b])/\g a0 b w2
def zt(f:bg7)(a:cb bE)(w:bH)(g:Int->Int->Bool->Bool->Int->bg0):Prop:=Calls P f a w λe w2=>∃a0,∃b,∃c,∃a3,∃a4,e=.returned (.tuple #[.agg #[Iv a0,Iv b,.bool c,.bool a3],Iv a4])/\g a0 b c a3 a4 w2
def zn(w:bH)(a:Addr)(g:Int->Int->Bool->Bool->Prop):Prop:=∃a0,w.cell? (a.add 0)=some (Iv a0)/\∃b,w.cell? (a.add 1)=some (Iv b)/\∃c,w.cell? (a.add 2)=some (.bool c)/\∃a3,w.cell? (a.add 3)=some (.bool a3)/\g a0 b c a3
def zm(f:bg7)(a:cb bE)(w:bH)(g:Int->Int->Int->Int->Int->Bool->Bool->bg0):Prop:=Calls P f a w λe w2=>∃a0,∃b,∃c,∃a3,∃a4,∃a5,∃d,e=.returned (.tuple #[.agg #[Iv a0,Iv b,Iv c,Iv a3,Iv a4,.bool a5],.bool d])/\g a0 b c a3 a4 a5 d w2
def zo(w:bH)(a:Addr)(v:bE)(g:ch->Prop):Prop:=∃x,w.cell? a=some (Pv x)/\(Pv x)=v/\g x
def zb(a0:ch)(d:Int)(w:bH)(g:(ch->Int->bg0)->ch->Int->bg0):Prop:=∃(c:ch->Int->bg0) (M:ch->Int->bH->Nat),c a0 d w/\∀_:Nat->bE,∀b0 b1,∀w,c b0 b1 w->g (λa b v=>c a b v/\M a b v<M b0 b1 w) b0 b1 w
def zf(f:bg7)(a:cb bE)(w:bH)(g:Int->Int->Int->Int->Int->Bool->bg0):Prop:=Calls P f a w λe w2=>∃a0,∃b,∃c,∃a3,∃a4,∃a5,e=.returned (.agg #[Iv a0,Iv b,Iv c,Iv a3,Iv a4,.bool a5])/\g a0 b c a3 a4 a5 w2
def za(w:bH)(a:Addr)(n:Nat)(v:bE)(g:Bool->Prop):Prop:=∃x,w.cell? (a.add n)=some (.bool x)/\(.bool x)=v/\g x
def zw(w:bH)(g:Addr->bg0):Prop:=Al (.cells #[Iv 3,Iv 0,Iv 0,Iv 0,Iv 0,Iv 5,Iv 0,Iv 2,Iv 0,Iv 0,Iv 9,Iv 0,Iv 20,Iv 7,Iv 0,Iv 8,Iv 0,Iv 20,Iv 0,Iv 0,Iv 8,Iv 0,Iv 21,Iv 0,Iv 0] 37) g w
end Go.Mp
namespace Go.Mp
open Go Go.Vc Go.Proofs
variable{K:bg1}{w:bH}
variable(K w)
def J4(c:ch)(g:Int):=
 NN c λa=>qZ w (a.add 1) 2 λd=>qQ xf #[Pv d,Iv g] w λe b=>K (Iv e) b
def J5(c:ch)(g:Int):=
 NN c λa=>qZ w (a.add 4) 2 λd=>qQ xf #[Pv d,Iv g] w λe b=>K (Iv e) b
def J6(c:ch):=
 NN c λa=>qZ w a 10 λd=>qJ xg #[Pv d] w λe b=>K (Sv e) b
def J7(c:ch)(id:Int):=
 qV w λb w2=>NN c λa3=>qZ w2 a3 10 λu=>qX px #[Pv u,Iv id] w2 λv x y m n o p q r s t=>qU [Iv v,Iv x,Iv y,Iv m,Iv n,Iv o,Iv p,.bool q,.bool r] b t λa=>qY a b λd e f g h i j k l=>K (.tuple #[.agg #[Iv d,Iv e,Iv f,Iv g,Iv h,Iv i,Iv j,.bool k,.bool l],Iv s]) a
def J8(c:ch):=
 NN c λa=>qZ w a 0 λb=>K (Pv b) w
def J9(c:ch):=
 Dr (λa=>NN c λg=>qZ a (g.add 1) 0 λh=>NN c λa4=>qZ a (a4.add 4) 0 λf=>qQ Bp #[Pv h] a λi d=>qG d (a4.add 4) 0 (Pv f) λj=>qQ Bp #[Pv f] d λe b=>K (.tuple #[Iv i,Iv e]) b) w
def Ka(c:ch)(g:Int):=
 qH Bv #[Pv c,Iv g] w λb d e f a=>K (Iv b) a
def Kb(t:ch):=
 NN t λa=>qM w a 0 λd=>qN Bw #[.map d] w λe b=>qJ xw #[e] b λf c=>K (Sv f) c
def Ke(t:ch)(id:Int):=
 qV w λa w2=>NN t λa3=>qM w2 a3 0 λF=>∃d:ch,gr P 117 (.map F) (Iv id) false w2 (Pv d)/\cond (!d.isNone) (NN d λE=>qY w2 E λG H I y z A B C D=>qU [Iv G,Iv H,Iv I,Iv y,Iv z,Iv A,Iv B,.bool C,.bool D] a w2 λb=>qY b a λe f g h i j k l m=>K (.tuple #[.agg #[Iv e,Iv f,Iv g,Iv h,Iv i,Iv j,Iv k,.bool l,.bool m],Iv 0]) b) (qU [Iv 0,Iv 0,Iv 0,Iv 0,Iv 0,Iv 0,Iv 0,.bool false,.bool false] a w2 λc=>qY c a λn o p q r s u v x=>K (.tuple #[.agg #[Iv n,Iv o,Iv p,Iv q,Iv r,Iv s,Iv u,.bool v,.bool x],Iv 2]) c)
def Kg(p:ch):=
 Dr (λa=>NN p λf=>qZ a f 0 λg=>NN p λa4=>qZ a a4 0 λe=>qQ Bx #[Pv g] a λh c=>qG c a4 0 (Pv e) λi=>qQ Ie #[Pv e] c λd b=>K (Iv (i64.wrap (h-d))) b) w
def Kh(t:ch)(g:Int):=
 qN Bz #[Pv t,Iv g] w λc a=>qJ xy #[c] a λd b=>K (Sv d) b
def Ki:=
 Al (.cells #[Iv (-1),.bool true] 133) (λa w2=>Al (.cells #[.slice (some a) 1 1] 99) (λb c=>K (Pv (some b)) c) w2) w
def Kj(n:Int):=
 Al (.cells #[Pv none,Pv none,Pv none] 76) (λb w2=>qR Ig #[Iv n] w2 λj g=>qR Ih #[Iv n] g λk h=>qR Ii #[] h λf i=>qU [Pv j,Pv k,Pv f] b i λa=>qP a b λc d e=>K (.agg #[Pv c,Pv d,Pv e]) a) w
def Kk(bY:Sl):=
 mK (λo w2=>Al (.cells #[aN8,.map (some o),Iv 0] 139) (λd p=>((0:Int)<=(min1 ((bY.n:Nat):Int) 32)/\(min1 ((bY.n:Nat):Int) 32)<=((bY.c:Nat):Int))/\qO 0 p λn e a=>cond (decide (e<((((min1 ((bY.n:Nat):Int) 32).toNat-0):Nat):Int))) (cM (gj bY.p 0 bY.c 1) ((min1 ((bY.n:Nat):Int) 32).toNat-0) e 1 λf=>qD a f λl=>NN (some d) λg=>qK a g 0 λm=>qC #[Iv (min1 (ea l 0) 4096)] a λi j=>∃c:Sl,∃b:bH,Sem.run P (Builtin.append_ #[22,22] 22 #[Sv m,.slice (some i) 1 1]) j=.ok (Sv c) b/\NN (some d) λh=>St (h.add 0) (Sv c) (λk=>(n (i64.wrap (e+1)) k)) b) (K (Pv (some d)) a)) w2) w
def Kl:=
 mK (λa w2=>Al (.cells #[.map (some a)] 142) (λb c=>K (Pv (some b)) c) w2) w
def Km:=
 qB w λa w2=>K (Pv (some a)) w2
def Kn:=
 mK (λa w2=>mK (λb e=>mK (λc f=>Al (.cells #[.map (some a),.map (some b),.map (some c),Iv 0] 122) (λd g=>K (Pv (some d)) g) f) e) w2) w
def Ko(c:ch)(g:Int):=
 Al (.cells #[Iv 0,Iv 0,Iv 0,Iv 0] 107) (λa w2=>qF xz #[Iv g] w2 λu d=>dX u (qU [Iv 0,Iv 0,Iv 0,Iv 0] a d λm=>qA m a λr s t h=>K (.agg #[Iv r,Iv s,Iv t,Iv h]) m) (NN c λe=>cM (some (e.add 0)) 64 g 4 λf=>qA d f λn o p q=>qU [Iv n,Iv o,Iv p,Iv q] a d λb=>qA b a λi j k l=>K (.agg #[Iv i,Iv j,Iv k,Iv l]) b)) w
def Kp(m:ch):=
 NN m λa=>qL w a 0 λb=>K (Iv b) w
def Kq(m:ch):=
 NN m λh=>qK w h 1 λf=>qI 0 0 w λg n7 c b=>fB c f.n (qW f c 1 λa9=>∃a:Int,b.cell? a9=some (.int .u64 a)/\qQ IA #[.int .u64 a] b λe d=>(g (i64.wrap (n7+e)) (i64.wrap (c+1)) d)) (K (Iv n7) b)
def Kr(seq:bE):=
 qJ IB #[aN8,seq] w λb a=>K (Sv b) a
def Ks(t:ch)(g:Int):=
 Al (.cells #[Pv t] 62) (λa w2=>qC #[Iv g] w2 λb c=>K (.func (.func sq) #[] #[Pv (some a),Pv (some b)]) c) w
def Ku(n:Int):=
 qR IC #[Iv (min1 n 1024)] w λd b=>Al (.cells #[Pv d] 130) (λa c=>K (Pv (some a)) c) b
def Kx(n:Int):=
 ∃b:Sl,∃a:bH,Sem.run P (Instr.makeSlice 185 (Iv (min1 (ea n 0) 1024)) (Iv (min1 (ea n 0) 1024))) w=.ok (Sv b) a/\Al (.cells #[Sv b] 187) (λc d=>K (Pv (some c)) d) a
def Ky:=
 qz w λb w2=>qO 0 w2 λe a d=>ed a 64 (NN (some b) λf=>cM (some (f.add 0)) 64 a 4 λa9=>St (a9.add 1) (Iv 1099511627776) (λc=>(e (i64.wrap (a+1)) c)) d) (K (Pv (some b)) d)
def Kz(g:Int):=
 cond (decide ((0:Int)<=g)) (K (.bool (decide (g<64))) w) (K aN2 w)
def KA(c:ch)(parent:Int):=
 NN c λr=>qZ w r 0 λu=>qj ID #[Pv u,Iv parent] w λq h g=>cond (h==0) (NN c λs=>qK g s 12 λv=>qx g λt m=>∃e:Sl,∃a:bH,Sem.run P (Builtin.append_ #[82,82] 82 #[Sv v,.slice (some t) 1 1]) m=.ok (Sv e) a/\NN c λi=>St (i.add 12) (Sv e) (λb=>NN c λj=>qK b j 13 λp=>qC #[Iv parent] b λl n=>∃f:Sl,∃d:bH,Sem.run P (Builtin.append_ #[22,22] 22 #[Sv p,.slice (some l) 1 1]) n=.ok (Sv f) d/\NN c λk=>St (k.add 13) (Sv f) (λo=>K (.tuple #[Iv q,Iv h]) o) d) a) (K (.tuple #[Iv q,Iv h]) g)
def KB(t:ch)(g:Int):=
 cond (decide ((0:Int)<=g)) (NN t λa=>qK w a 0 λb=>fB g b.n (NN t λa3=>qK w a3 0 λc=>qW c g 2 λa5=>qy w a5 1 λd=>K (.bool d) w) (K aN2 w)) (K aN2 w)
def KC(c:ch)(g:Int):=
 NN c λI=>qZ w I 0 λL=>qQ IE #[Pv L,Iv g] w λH u=>NN c λJ=>qZ u J 0 λM=>qQ IF #[Pv M,Iv g] u λj l=>cond (j !=0) (K (Iv j) l) (NN c λo=>qZ l o 10 λA=>qJ IG #[Pv A,Iv g] l λk s=>qO 0 s λm d a=>fB d k.n (qW k d 1 λp=>qD a p λB=>NN c λa23=>qZ a a23 10 λC=>qQ BI #[Pv C,Iv B,Iv H] a λN t=>(m (i64.wrap (d+1)) t)) (NN c λa28=>qZ a a28 8 λD=>qQ IH #[Pv D,Iv g,Iv H] a λO v=>Dr (λb=>NN c λq=>qZ b (q.add 1) 2 λE=>NN c λa36=>qZ b (a36.add 4) 2 λF=>qO 0 b λn e h=>ed e 2 (∃f:ch,∃i:bH,Sem.run P (Instr.index 190 (.agg #[Pv E,Pv F]) (Iv e)) h=.ok (Pv f) i/\qC #[Iv g] i λr x=>qQ xf #[Pv f,Iv g] x λG y=>qQ sr #[Pv f,.slice (some r) 1 1,Iv G] y λQ z=>(n (i64.wrap (e+1)) z)) (K (Iv 0) h)) v))
def KD(c:ch)(g what n:Int):=
 qg (λt=>NN c λa4=>qZ w a4 0 λu=>qF j8 #[Pv u,Iv g] w λv b=>dX v (K (Iv 2) b) (ed n 0 (K (Iv 1) b) (cond (decide (n>1099511627776)) (K (Iv 1) b) (t b)))) λw2=>NN c λa9=>qK w2 a9 12 λo=>qW o g 3 λa=>cond (what==0) (NN (some a) λd=>St (d.add 0) (Iv n) (λi=>K (Iv 0) i) w2) (cond (what==1) (NN (some a) λe=>St (e.add 1) (Iv n) (λj=>K (Iv 0) j) w2) (cond (what==2) (NN c λf=>qZ w2 (f.add 1) 2 λp=>qQ BJ #[Pv p,Iv g,Iv n] w2 λq k=>K (Iv q) k) (cond (what==3) (NN c λh=>qZ w2 (h.add 4) 2 λr=>qQ BJ #[Pv r,Iv g,Iv n] w2 λs l=>K (Iv s) l) (cond (what==4) (cond (decide (n>1)) (K (Iv 1) w2) (NN (some a) λa26=>St (a26.add 2) (.bool (n==1)) (λm=>K (Iv 0) m) w2)) (K (Iv 1) w2)))))
def KE(c:ch)(target:Int):=
 NN c λl=>qZ w l 0 λn=>qJ ss #[Pv n,Iv target] w λj m=>qI 0 0 m λk n10 a b=>fB a j.n (qW j a 1 λd=>qD b d λg=>NN c λe=>qZ b e 8 λh=>qQ II #[Pv h,Iv g] b λi f=>(k (i64.wrap (n10+i)) (i64.wrap (a+1)) f)) (K (Iv n10) b)
def KF(c:ch)(target n:Int):=
 qg (λW=>NN c λa4=>qZ w a4 0 λX=>qF j8 #[Pv X,Iv target] w λY o=>dX Y (K (Iv 0) o) (ed n 1 (K (Iv 0) o) (cond (decide (n>1000)) (K (Iv 0) o) (W o)))) λw2=>NN c λa9=>qZ w2 a9 0 λJ=>qJ ss #[Pv J,Iv target] w2 λd D=>qJ q8 #[Pv c,Iv target,(.func (.func uI) #[] #[])] D λL E=>qJ q8 #[Pv c,Iv target,(.func (.func uJ) #[] #[])] E λM F=>∃k:Sl,∃s:bH,Sem.run P (Instr.makeSlice 22 (Iv ((d.n:Nat):Int)) (Iv ((d.n:Nat):Int))) F=.ok (Sv k) s/\qO 0 s λp h f=>fB h d.n (qW d h 1 λa27=>qD f a27 λl=>qh (λr=>qW L l 1 λa33=>qm f a33 λO=>dX O (qW M l 1 λa35=>qm f a35 λQ=>r (!Q) f) (r false f)) λN i=>cond N (NN c λB=>qZ i B 8 λR=>qQ IJ #[Pv R,Iv l] i λS G=>qW k h 1 λC=>St C (Iv S) (λH=>(p (i64.wrap (h+1)) H)) G) ((p (i64.wrap (h+1)) i))) (qJ IK #[Iv n,Sv k] f λy I=>qI 0 0 I λz g a j=>fB a y.n (qW y a 1 λa53=>qD j a53 λT=>qI g 0 j λq e m t=>ed m T (((0:Int)<=(i64.wrap (a+1))/\(i64.wrap (a+1))<=((d.c:Nat):Int))/\((0:Int)<=a/\a<=(((i64.wrap (a+1)).toNat:Nat):Int))/\qF xE #[Pv c,Iv target,.slice (gj d.p a.toNat d.c 1) ((i64.wrap (a+1)).toNat-a.toNat) (d.c-a.toNat),.bool false] t λU u=>cond U ((q (i64.wrap (e+1)) (i64.wrap (m+1)) u)) ((q e (i64.wrap (m+1)) u))) ((z e (i64.wrap (a+1)) t))) (qO g j λA b v=>ed b n (qF sv #[Pv c,Iv target] v λV x=>cond V ((A (i64.wrap (b+1)) x)) (K (Iv b) x)) (K (Iv b) v)))
def KG(c:ch):=
 NN c λa=>qZ w a 7 λd=>qQ IM #[Pv d] w λe b=>K (Iv e) b
def KH(c:ch)(file:Int):=
 NN c λa=>qZ w a 7 λd=>qQ BL #[Pv d,Iv file] w λe b=>K (Iv e) b
def KI(c:ch)(id f:Int):=
 qp BR #[Pv c,Iv id] w λj k b=>dX k (K (.tuple #[.int .u8 0,Iv 2]) b) (NN c λa5=>qZ b (a5.add 1) 1 λl=>qo IS #[Pv l,Iv j,Iv f] b λi a d=>cond (a==0) (NN c λe=>qZ d e 8 λh=>qQ xG #[Pv h,Iv id] d λm g=>K (.tuple #[.int .u8 i,Iv a]) g) (K (.tuple #[.int .u8 i,Iv a]) d))
def KJ(c:ch)(id i b:Int):=
 qp BR #[Pv c,Iv id] w λm n d=>dX n (K (Iv 2) d) (NN c λa5=>qZ d (a5.add 1) 1 λo=>qQ IW #[Pv o,Iv m,Iv i,.int .u8 b] d λf e=>cond (f==0) (NN c λg=>qZ e g 8 λk=>qQ xG #[Pv k,Iv id] e λp a=>NN c λh=>qZ a h 10 λl=>qQ BT #[Pv l,Iv id,.bool true] a λq j=>K (Iv f) j) (K (Iv f) e))
def KK(c:ch)(id n:Int):=
 NN c λam=>qZ w am 10 λan=>qj IY #[Pv an,Iv id,Iv n] w λao o m=>qg (λal=>cond (o !=0) (K (Iv o) m) (cond (decide (ao>0)) (K (Iv o) m) (al m))) λB=>NN c λp=>qZ B p 10 λC=>qX px #[Pv C,Iv id] B λD E F G H I J L M ap t=>qV t λa u=>qU [Iv D,Iv E,Iv F,Iv G,Iv H,Iv I,Iv J,.bool L,.bool M] a u λv=>Dr (λe=>NN c λa28=>qZ e a28 0 λN=>qL e a 4 λO=>qJ q7 #[Pv N,Iv O] e λk b=>qg (λd=>qL b a 2 λl=>cond (l==1) (qY b a λP Q R S T U V W X=>qE BV #[Pv c,Iv id,.agg #[Iv P,Iv Q,Iv R,Iv S,Iv T,Iv U,Iv V,.bool W,.bool X]] b λx=>Dr (λf=>NN c λq=>qP f (q.add 1) λY Z aa=>qL f a 3 λab=>qE ra #[.agg #[Pv Y,Pv Z,Pv aa],Iv ab,Sv k] f λi=>NN c λa57=>qZ i a57 8 λad=>qQ BW #[Pv ad,Iv id] i λaq y=>d y) x) (cond (l==2) (Dr (λg=>NN c λa63=>qP g (a63.add 4) λae af ag=>qL g a 3 λah=>qE ra #[.agg #[Pv ae,Pv af,Pv ag],Iv ah,Sv k] g λz=>d z) b) (d b))) λh=>NN c λr=>qZ h r 10 λai=>qQ uL #[Pv ai,Iv id,Iv 0,Iv 0] h λar j=>NN c λs=>qZ j s 10 λaj=>qQ BX #[Pv aj,Iv id] j λak A=>K (Iv ak) A) v
variable{K w}
def Vw(c g)(h:J4 K w c g):=bM {} #[Pv c,Iv g] K w func19 h
def Vx(c g)(h:J5 K w c g):=bM {} #[Pv c,Iv g] K w func20 h
def Vy(c)(h:J6 K w c):=bM {} #[Pv c] K w func26 h
def Vz(c id)(h:J7 K w c id):=bM {} #[Pv c,Iv id] K w func28 h
def VA(c)(h:J8 K w c):=bM {} #[Pv c] K w func30 h
def VB(c)(h:J9 K w c):=bM (z8 [] [(1,[[0,1,2,3,4,6,7,8,9,10,5,11,12,13]],[5,11])]) #[Pv c] K w func32 h
def VC(c g)(h:Ka K w c g):=bM {} #[Pv c,Iv g] K w func35 h
def VD(t)(h:Kb K w t):=bM {} #[Pv t] K w func39 h
def VE(t id)(h:Ke K w t id):=bM (z8 [14]) #[Pv t,Iv id] K w func41 h
def VF(p)(h:Kg K w p):=bM (z8 [13] [(1,[[0,1,2,3,5,6,7,8,4,9,10,11]],[4,9])]) #[Pv p] K w func42 h
def VG(t g)(h:Kh K w t g):=bM {} #[Pv t,Iv g] K w func43 h
def VH(h:Ki K w):=bM {} #[] K w func44 h
def VI(n)(h:Kj K w n):=bM {} #[Iv n] K w func45 h
def VJ(bY)(h:Kk K w bY):=bM (z8 [11,12,14,16,25,26,31] [] [(3,[(15,jZ)])]) #[Sv bY] K w func46 h
def VK(h:Kl K w):=bM {} #[] K w func47 h
def VL(h:Km K w):=bM {} #[] K w func48 h
def VM(h:Kn K w):=bM {} #[] K w func49 h
def VN(c g)(h:Ko K w c g):=bM {} #[Pv c,Iv g] K w func50 h
def VO(m)(h:Kp K w m):=bM {} #[Pv m] K w func70 h
def VP(m)(h:Kq K w m):=bM (z8 [10,12,18,19] [] [(3,[(3,jZ),(11,jZ)])]) #[Pv m] K w func71 h
def VQ(seq)(h:Kr K w seq):=bM {} #[seq] K w func72 h
def VR(t g)(h:Ks K w t g):=bM {} #[Pv t,Iv g] K w func73 h
def VS(n)(h:Ku K w n):=bM (z8 [4]) #[Iv n] K w func74 h
def VT(n)(h:Kx K w n):=bM (z8 [4,5]) #[Iv n] K w func75 h
def VU(h:Ky K w):=bM (z8 [6,14] [] [(3,[(5,jZ)])]) #[] K w func76 h
def VV(g)(h:Kz K w g):=bM (z8 [4,7]) #[Iv g] K w func77 h
def VW(c parent)(h:KA K w c parent):=bM (z8 [18]) #[Pv c,Iv parent] K w func78 h
def VX(t g)(h:KB K w t g):=bM (z8 [6,13,14]) #[Pv t,Iv g] K w func79 h
def VY(c g)(h:KC K w c g):=bM {(z8 [24,32,34,44,64,73] [] [(6,[(33,jZ)]),(12,[(63,jZ)])]:dO)with head:=λr=>(bif r==11 then 12 else 0)} #[Pv c,Iv g] K w func80 h
def VZ(c g what n)(h:KD K w c g what n):=bM (z8 [20,23,33,39,45,55,65,67,70] [] [] [(5,[])]) #[Pv c,Iv g,Iv what,Iv n] K w func81 h
def V2(c target)(h:KE K w c target):=bM (z8 [14,16,26,27] [] [(3,[(5,jZ),(15,jZ)])]) #[Pv c,Iv target] K w func84 h
def V3(c target n)(h:KF K w c target n):=bM (z8 [25,29,44,47,49,74,78,80,86,92,96,97,98,101,108] [] [(6,[(48,jZ)]),(13,[(13,jZ),(79,jZ)]),(16,[(13,jZ),(85,jZ)]),(21,[(13,jZ)])] [(3,[]),(9,[(64,.bool)])]) #[Pv c,Iv target,Iv n] K w func85 h
def V4(c)(h:KG K w c):=bM {} #[Pv c] K w func89 h
def V5(c file)(h:KH K w c file):=bM {} #[Pv c,Iv file] K w func90 h
def V6(c id a)(h:KI K w c id a):=bM (z8 [32]) #[Pv c,Iv id,Iv a] K w func95 h
def V7(c id a b)(h:KJ K w c id a b):=bM (z8 [30]) #[Pv c,Iv id,Iv a,.int .u8 b] K w func100 h
def V8(c id n)(h:KK K w c id n):=bM (z8 [23,26,48,68] [(5,[jQ 8],[6]),(9,[jQ 8],[7]),(12,[jQ 8],[7])] [] [(4,[]),(13,[])]) #[Pv c,Iv id,Iv n] K w func102 h
end Go.Mp
namespace Go.Mp
open Go Go.Vc Go.Proofs
variable{K:bg1}{w:bH}
variable(K w)
def KL(x:Int):=
 0<=(1:Int)/\0<=(2:Int)/\0<=(4:Int)/\0<=(8:Int)/\0<=(16:Int)/\0<=(32:Int)/\K (Iv (bU .i64 (i64.wrap (u64.wrap ((u64.wrap ((u64.wrap ((bU .u64 (u64.wrap (((u64.wrap ((bU .u64 ((u64.wrap ((bU .u64 (x.fdiv (2^(min (1:Int).toNat 64))) 6148914691236517205)+(bU .u64 x 6148914691236517205))).fdiv (2^(min (2:Int).toNat 64))) 3689348814741910323)+(bU .u64 (u64.wrap ((bU .u64 (x.fdiv (2^(min (1:Int).toNat 64))) 6148914691236517205)+(bU .u64 x 6148914691236517205))) 3689348814741910323))).fdiv (2^(min (4:Int).toNat 64)))+(u64.wrap ((bU .u64 ((u64.wrap ((bU .u64 (x.fdiv (2^(min (1:Int).toNat 64))) 6148914691236517205)+(bU .u64 x 6148914691236517205))).fdiv (2^(min (2:Int).toNat 64))) 3689348814741910323)+(bU .u64 (u64.wrap ((bU .u64 (x.fdiv (2^(min (1:Int).toNat 64))) 6148914691236517205)+(bU .u64 x 6148914691236517205))) 3689348814741910323))))) 1085102592571150095)+((bU .u64 (u64.wrap (((u64.wrap ((bU .u64 ((u64.wrap ((bU .u64 (x.fdiv (2^(min (1:Int).toNat 64))) 6148914691236517205)+(bU .u64 x 6148914691236517205))).fdiv (2^(min (2:Int).toNat 64))) 3689348814741910323)+(bU .u64 (u64.wrap ((bU .u64 (x.fdiv (2^(min (1:Int).toNat 64))) 6148914691236517205)+(bU .u64 x 6148914691236517205))) 3689348814741910323))).fdiv (2^(min (4:Int).toNat 64)))+(u64.wrap ((bU .u64 ((u64.wrap ((bU .u64 (x.fdiv (2^(min (1:Int).toNat 64))) 6148914691236517205)+(bU .u64 x 6148914691236517205))).fdiv (2^(min (2:Int).toNat 64))) 3689348814741910323)+(bU .u64 (u64.wrap ((bU .u64 (x.fdiv (2^(min (1:Int).toNat 64))) 6148914691236517205)+(bU .u64 x 6148914691236517205))) 3689348814741910323))))) 1085102592571150095).fdiv (2^(min (8:Int).toNat 64)))))+((u64.wrap ((bU .u64 (u64.wrap (((u64.wrap ((bU .u64 ((u64.wrap ((bU .u64 (x.fdiv (2^(min (1:Int).toNat 64))) 6148914691236517205)+(bU .u64 x 6148914691236517205))).fdiv (2^(min (2:Int).toNat 64))) 3689348814741910323)+(bU .u64 (u64.wrap ((bU .u64 (x.fdiv (2^(min (1:Int).toNat 64))) 6148914691236517205)+(bU .u64 x 6148914691236517205))) 3689348814741910323))).fdiv (2^(min (4:Int).toNat 64)))+(u64.wrap ((bU .u64 ((u64.wrap ((bU .u64 (x.fdiv (2^(min (1:Int).toNat 64))) 6148914691236517205)+(bU .u64 x 6148914691236517205))).fdiv (2^(min (2:Int).toNat 64))) 3689348814741910323)+(bU .u64 (u64.wrap ((bU .u64 (x.fdiv (2^(min (1:Int).toNat 64))) 6148914691236517205)+(bU .u64 x 6148914691236517205))) 3689348814741910323))))) 1085102592571150095)+((bU .u64 (u64.wrap (((u64.wrap ((bU .u64 ((u64.wrap ((bU .u64 (x.fdiv (2^(min (1:Int).toNat 64))) 6148914691236517205)+(bU .u64 x 6148914691236517205))).fdiv (2^(min (2:Int).toNat 64))) 3689348814741910323)+(bU .u64 (u64.wrap ((bU .u64 (x.fdiv (2^(min (1:Int).toNat 64))) 6148914691236517205)+(bU .u64 x 6148914691236517205))) 3689348814741910323))).fdiv (2^(min (4:Int).toNat 64)))+(u64.wrap ((bU .u64 ((u64.wrap ((bU .u64 (x.fdiv (2^(min (1:Int).toNat 64))) 6148914691236517205)+(bU .u64 x 6148914691236517205))).fdiv (2^(min (2:Int).toNat 64))) 3689348814741910323)+(bU .u64 (u64.wrap ((bU .u64 (x.fdiv (2^(min (1:Int).toNat 64))) 6148914691236517205)+(bU .u64 x 6148914691236517205))) 3689348814741910323))))) 1085102592571150095).fdiv (2^(min (8:Int).toNat 64))))).fdiv (2^(min (16:Int).toNat 64)))))+((u64.wrap ((u64.wrap ((bU .u64 (u64.wrap (((u64.wrap ((bU .u64 ((u64.wrap ((bU .u64 (x.fdiv (2^(min (1:Int).toNat 64))) 6148914691236517205)+(bU .u64 x 6148914691236517205))).fdiv (2^(min (2:Int).toNat 64))) 3689348814741910323)+(bU .u64 (u64.wrap ((bU .u64 (x.fdiv (2^(min (1:Int).toNat 64))) 6148914691236517205)+(bU .u64 x 6148914691236517205))) 3689348814741910323))).fdiv (2^(min (4:Int).toNat 64)))+(u64.wrap ((bU .u64 ((u64.wrap ((bU .u64 (x.fdiv (2^(min (1:Int).toNat 64))) 6148914691236517205)+(bU .u64 x 6148914691236517205))).fdiv (2^(min (2:Int).toNat 64))) 3689348814741910323)+(bU .u64 (u64.wrap ((bU .u64 (x.fdiv (2^(min (1:Int).toNat 64))) 6148914691236517205)+(bU .u64 x 6148914691236517205))) 3689348814741910323))))) 1085102592571150095)+((bU .u64 (u64.wrap (((u64.wrap ((bU .u64 ((u64.wrap ((bU .u64 (x.fdiv (2^(min (1:Int).toNat 64))) 6148914691236517205)+(bU .u64 x 6148914691236517205))).fdiv (2^(min (2:Int).toNat 64))) 3689348814741910323)+(bU .u64 (u64.wrap ((bU .u64 (x.fdiv (2^(min (1:Int).toNat 64))) 6148914691236517205)+(bU .u64 x 6148914691236517205))) 3689348814741910323))).fdiv (2^(min (4:Int).toNat 64)))+(u64.wrap ((bU .u64 ((u64.wrap ((bU .u64 (x.fdiv (2^(min (1:Int).toNat 64))) 6148914691236517205)+(bU .u64 x 6148914691236517205))).fdiv (2^(min (2:Int).toNat 64))) 3689348814741910323)+(bU .u64 (u64.wrap ((bU .u64 (x.fdiv (2^(min (1:Int).toNat 64))) 6148914691236517205)+(bU .u64 x 6148914691236517205))) 3689348814741910323))))) 1085102592571150095).fdiv (2^(min (8:Int).toNat 64)))))+((u64.wrap ((bU .u64 (u64.wrap (((u64.wrap ((bU .u64 ((u64.wrap ((bU .u64 (x.fdiv (2^(min (1:Int).toNat 64))) 6148914691236517205)+(bU .u64 x 6148914691236517205))).fdiv (2^(min (2:Int).toNat 64))) 3689348814741910323)+(bU .u64 (u64.wrap ((bU .u64 (x.fdiv (2^(min (1:Int).toNat 64))) 6148914691236517205)+(bU .u64 x 6148914691236517205))) 3689348814741910323))).fdiv (2^(min (4:Int).toNat 64)))+(u64.wrap ((bU .u64 ((u64.wrap ((bU .u64 (x.fdiv (2^(min (1:Int).toNat 64))) 6148914691236517205)+(bU .u64 x 6148914691236517205))).fdiv (2^(min (2:Int).toNat 64))) 3689348814741910323)+(bU .u64 (u64.wrap ((bU .u64 (x.fdiv (2^(min (1:Int).toNat 64))) 6148914691236517205)+(bU .u64 x 6148914691236517205))) 3689348814741910323))))) 1085102592571150095)+((bU .u64 (u64.wrap (((u64.wrap ((bU .u64 ((u64.wrap ((bU .u64 (x.fdiv (2^(min (1:Int).toNat 64))) 6148914691236517205)+(bU .u64 x 6148914691236517205))).fdiv (2^(min (2:Int).toNat 64))) 3689348814741910323)+(bU .u64 (u64.wrap ((bU .u64 (x.fdiv (2^(min (1:Int).toNat 64))) 6148914691236517205)+(bU .u64 x 6148914691236517205))) 3689348814741910323))).fdiv (2^(min (4:Int).toNat 64)))+(u64.wrap ((bU .u64 ((u64.wrap ((bU .u64 (x.fdiv (2^(min (1:Int).toNat 64))) 6148914691236517205)+(bU .u64 x 6148914691236517205))).fdiv (2^(min (2:Int).toNat 64))) 3689348814741910323)+(bU .u64 (u64.wrap ((bU .u64 (x.fdiv (2^(min (1:Int).toNat 64))) 6148914691236517205)+(bU .u64 x 6148914691236517205))) 3689348814741910323))))) 1085102592571150095).fdiv (2^(min (8:Int).toNat 64))))).fdiv (2^(min (16:Int).toNat 64))))).fdiv (2^(min (32:Int).toNat 64)))))) 127)) w
def CW(s:Sl)(seq:bE):=
 Al (.cells #[Sv s] 22) (λb w2=>iy P 13 seq #[7] (j6 f109.body) (j7 f109.body) .ret (((((jg [Sv s,seq] 0 .nil).put (some 2) (Pv (some b))).put (some 4) (aN8)).put (some 6) seq)) w2 (λb3 a=>qc a b λd=>a.heap[b3]?=some (.deferred (some []))/\K (Sv d) (a.putObj b3 (.deferred none))) (λb4 c=>c.heap[b4]?=some (.deferred (some []))/\K (aN8) (c.putObj b4 (.deferred none)))) w
def CX(yield:bE)(e b:Addr):=
 qb w e λN=>qD w b λO=>qF j8 #[Pv N,Iv O] w λQ M=>qd M λc f=>cond Q (qD f b λs=>cond (decide (s≥0)) (qD f b λt=>w6 P none yield #[Iv t] f λm g=>∃h,m=.returned (.bool h)/\dX h (K aN4 g) (Dr (λa=>(qb a e λi=>(NN i λd=>((qK a d 0 λu=>(qD a b λv=>(qW u v 2 λa20=>((qL a a20 0 λx=>(St b (Iv x) (λn=>(([]:bA Nat)= []/\(c n))) a)/\True)/\True)/\True)/\True)/\True)/\((qD a b λy=>(qK a d 0 λz=>(qW z y 2 λa25=>((qL a a25 0 λA=>(St b (Iv A) (λo=>(([]:bA Nat)= []/\(c o))) a)/\True)/\True)/\True)/\True)/\True)/\True))/\((qD a b λB=>((qK a d 0 λC=>(qW C B 2 λj=>((qL a j 0 λD=>(St b (Iv D) (λp=>(([]:bA Nat)= []/\(c p))) a)/\True)/\True)/\True)/\True)/\True)/\True)/\True))/\((qD a b λE=>(NN i λk=>((qK a k 0 λF=>(qW F E 2 λa36=>((qL a a36 0 λG=>(St b (Iv G) (λq=>(([]:bA Nat)= []/\(c q))) a)/\True)/\True)/\True)/\True)/\True)/\True)/\True)/\True))/\((qD a b λH=>(qb a e λI=>(NN I λa41=>((qK a a41 0 λJ=>(qW J H 2 λl=>((qL a l 0 λL=>(St b (Iv L) (λr=>(([]:bA Nat)= []/\(c r))) a)/\True)/\True)/\True)/\True)/\True)/\True)/\True)/\True)/\True)) g)) (K aN4 f)) (K aN4 f)
def KM(n:Int):=
 0<=(6:Int)/\∃b:Sl,∃a:bH,Sem.run P (Instr.makeSlice 179 (Iv ((i64.wrap ((i64.wrap ((min1 (ea n 0) 65536)+64))-1)).fdiv (2^(min (6:Int).toNat 64)))) (Iv ((i64.wrap ((i64.wrap ((min1 (ea n 0) 65536)+64))-1)).fdiv (2^(min (6:Int).toNat 64))))) w=.ok (Sv b) a/\Al (.cells #[Iv (min1 (ea n 0) 65536),Sv b] 181) (λc d=>K (Pv (some c)) d) a
def KN(t:ch)(parent:Int):=
 qF j8 #[Pv t,Iv parent] w λm h=>dX m (K (.tuple #[Iv (-1),Iv 2]) h) (qQ B2 #[Pv t,Iv parent] h λn a=>cond (decide (n≥7)) (K (.tuple #[Iv (-1),Iv 21]) a) (NN t λl=>qK a l 0 λo=>cond (decide (((o.n:Nat):Int)≥64)) (K (.tuple #[Iv (-1),Iv 3]) a) (NN t λa9=>qK a a9 0 λj=>Al (.cells #[Iv parent,.bool true] 133) (λg i=>∃d:Sl,∃b:bH,Sem.run P (Builtin.append_ #[97,97] 97 #[Sv j,.slice (some g) 1 1]) i=.ok (Sv d) b/\NN t λe=>St (e.add 0) (Sv d) (λc=>NN t λf=>qK c f 0 λk=>K (.tuple #[Iv (i64.wrap (((k.n:Nat):Int)-1)),Iv 0]) c) b) a)))
def KO(t:ch)(g:Int):=
 qF j8 #[Pv t,Iv g] w λc a=>dX c (K (Iv (-1)) a) (NN t λa4=>qK a a4 0 λd=>qW d g 2 λb=>qL a b 0 λe=>K (Iv e) a)
def KP(t:ch)(g:Int):=
 cond (g==0) (K (Iv 1) w) (qF j8 #[Pv t,Iv g] w λe b=>dX e (K (Iv 2) b) (qJ IZ #[Pv t,Iv g] b λf a=>cond (decide (((f.n:Nat):Int)>0)) (K (Iv 4) a) (NN t λd=>qK a d 0 λh=>qW h g 2 λa9=>St (a9.add 1) (.bool false) (λc=>K (Iv 0) c) a)))
def KQ(t:ch)(owner:Int):=
 Al (.cells #[Pv t] 80) (λa w2=>qC #[Iv owner] w2 λd b=>qb b a λg=>qJ xg #[Pv g] b λh e=>qJ B3 #[Sv h,(.func (.func I0) #[] #[Pv (some a),Pv (some d)])] e λc f=>K (Sv c) f) w
def KR(t:ch)(id owner:Int):=
 qC #[Iv owner] w λa w2=>qQ xI #[Pv t,Iv id,(.func (.func B4) #[] #[Pv (some a)])] w2 λc b=>K (Iv c) b
def KS(l:ch)(a c:Int):=
 qC #[Iv c] w λb w2=>qg (λe=>qD w2 b λh=>ed h 0 (K (Iv 0) w2) (qD w2 b λi=>cond (decide (i>16777216)) (K (Iv 0) w2) (e w2))) λf=>qQ B5 #[Pv l,Iv a,(.func (.func I1) #[] #[Pv (some b)])] f λd g=>K (Iv d) g
def KT(c:ch)(chain:Sl)(n:Int):=
 qC #[Iv n] w λf w2=>qD w2 f λq=>qF B6 #[Sv chain,Iv q] w2 λr l=>dX r (K (Iv 1) l) (qQ B7 #[Pv c,Sv chain,(.func (.func B8) #[] #[Pv (some f)])] l λs m=>cond (decide (s≥0)) (K (Iv 2) m) (qO 0 m λg d a=>fB d chain.n (qW chain d 1 λh=>qD a h λe=>Dr (λb=>NN c λi=>cM (some (i.add 0)) 64 e 4 λj=>qL b j 0 λo=>qD b f λp=>NN c λa22=>cM (some (a22.add 0)) 64 e 4 λa23=>St (a23.add 0) (Iv (i64.wrap (o-p))) (λk=>(g (i64.wrap (d+1)) k)) b) a) (K (Iv 0) a)))
def KU(c:ch)(g n:Int):=
 qg (λh=>qF xz #[Iv g] w λi e=>dX i (K (Iv 1) e) (qF B9 #[Iv n] e λj f=>dX j (K (Iv 1) f) (h f))) λw2=>NN c λa=>cM (some (a.add 0)) 64 g 4 λb=>St (b.add 1) (Iv n) (λd=>K (Iv 0) d) w2
def KV(t:ch)(g:Int):=
 Al (.cells #[Pv t] 62) (λa w2=>qC #[Iv g] w2 λd b=>qb b a λi=>qD b d λj=>qF j8 #[Pv i,Iv j] b λk c=>dX k (K (aN8) c) (qb c a λf=>qJ Ca #[Pv f,(.func (.func Cb) #[] #[Pv (some a),Pv (some d)])] c λh e=>K (Sv h) e)) w
def KW(l:ch)(group:Int):=
 qQ B5 #[Pv l,Iv group,(.func (.func I2) #[] #[])] w λb a=>K (Iv b) a
def KX(c:ch)(target:Int)(own:bE):=
 NN c λai=>qK w ai 12 λU=>qf ⟨none,0,0⟩ 0 w λah f e x=>fB e U.n (qW U e 3 λa9=>qa x a9 λO Q R=>qx x λg E=>qU [Iv O,Iv Q,.bool R] g E λh=>NN c λz=>qK h z 13 λS=>qW S e 1 λA=>qD h A λT=>qi h λa F=>qU [Iv T,Iv 0,Iv 0] a F λj=>qg (λi=>NN c λa26=>qZ j a26 0 λV=>qF j8 #[Pv V,Iv e] j λW l=>cond W (Dr (λm=>qa m g λr s t=>qQ uC #[Pv c,Iv e] m λX n=>qa n g λY Z aa=>((.agg #[Iv Y,Iv Z,.bool aa]):bE)=(.agg #[Iv r,Iv s,.bool t])/\eY P own #[.agg #[Iv r,Iv s,.bool t]] n λC G=>∃u,C=.returned (Iv u)/\St (a.add 1) (Iv X) (λH=>St (a.add 2) (Iv u) (λI=>i I) H) G) l) (i l)) λk=>ql k a λab ad ae=>Al (.cells #[Iv ab,Iv ad,Iv ae] 247) (λD J=>∃v:Sl,∃o:bH,Sem.run P (Builtin.append_ #[245,245] 245 #[Sv f,.slice (some D) 1 1]) J=.ok (Sv v) o/\(ah v (i64.wrap (e+1)) o)) k) (qJ I3 #[Sv f,Iv target] x λaf L=>∃b:Sl,∃p:bH,Sem.run P (Instr.makeSlice 194 (Iv ((f.n:Nat):Int)) (Iv ((f.n:Nat):Int))) L=.ok (Sv b) p/\qO 0 p λy d q=>fB d b.n (qF Cc #[Sv f,Sv af,Iv target,Iv d] q λag M=>qW b d 1 λB=>St B (.bool ag) (λN=>(y (i64.wrap (d+1)) N)) M) (K (Sv b) q))
def V9(a b:Int)(c:Bool):=
 Al (.cells #[Iv a,Iv b,.bool c] 189) (λd w2=>qL w2 d 0 λe=>K (Iv e) w2) w
def Wa(a b:Int)(c:Bool):=
 Al (.cells #[Iv a,Iv b,.bool c] 189) (λd w2=>qL w2 d 1 λe=>K (Iv e) w2) w
def KY(l:ch)(group:Int):=
 NN l λr=>qM w r 0 λs=>∃b:ch,∃o:bH,Sem.run P (Instr.range 140 (.map s)) w=.ok (Pv b) o/\qO 0 o λi n9 p=>(∃f:bH,Sem.run P (Instr.next (Pv b) false 0) p=.ok (.tuple #[.bool false]) f/\K (Iv n9) f)\/(∃j:bE,∃m:bE,∃g:bH,Sem.run P (Instr.next (Pv b) false 0) p=.ok (.tuple #[.bool true,j,m]) g/\∃k:bE,∃d:Int,∃e:Int,∃h:bH,Sem.run P (Instr.entry (Pv b)) g=.ok (.tuple #[k,.agg #[Iv d,Iv e]]) h/\qw h λc n=>qU [Iv d,Iv e] c n λa=>qL a c 0 λq=>cond (q==group) ((i (i64.wrap (n9+1)) a)) ((i n9 a)))
def KZ(n:Int)(weights:Sl):=
 qF Cd #[Iv n,Sv weights] w λai Q=>dX ai (K (aN8) Q) (Dr (λT=>(∃j:Sl,∃W:bH,Sem.run P (Instr.makeSlice 22 (Iv ((weights.n:Nat):Int)) (Iv ((weights.n:Nat):Int))) T=.ok (Sv j) W/\qJ uM #[Sv weights] W λm ah=>qO n ah λz n14 p=>qg (λD=>cond (decide (n14>0)) (qQ uN #[Sv m] p λaa q=>cond (decide (aa>0)) (D q) (K (Sv j) q)) (K (Sv j) p)) λR=>qJ xJ #[Iv n14,Sv m] R λx S=>qI n14 0 S λA n28 a c=>fB a x.n (qW x a 1 λF=>qD c F λh=>qW m a 1 λa32=>qD c a32 λi=>qW j a 1 λG=>qD c G λab=>qW j a 1 λa36=>St a36 (Iv (i64.wrap (ab+(min1 h i)))) (λr=>qW m a 1 λH=>qD r H λad=>qW m a 1 λa40=>St a40 (Iv (i64.wrap (ad-(min1 h i)))) (λU=>(A (i64.wrap (n28-(min1 h i))) (i64.wrap (a+1)) U)) r) c) ((z n28 c)))/\(qJ uM #[Sv weights] T λe V=>∃f:Sl,∃s:bH,Sem.run P (Instr.makeSlice 22 (Iv ((weights.n:Nat):Int)) (Iv ((weights.n:Nat):Int))) V=.ok (Sv f) s/\qO n s λB g t=>qg (λE=>cond (decide (g>0)) (qQ uN #[Sv e] t λae u=>cond (decide (ae>0)) (E u) (K (Sv f) u)) (K (Sv f) t)) λX=>qJ xJ #[Iv g,Sv e] X λy Y=>qI g 0 Y λC o b d=>fB b y.n (qW y b 1 λI=>qD d I λk=>qW e b 1 λJ=>qD d J λl=>qW f b 1 λL=>qD d L λaf=>qW f b 1 λM=>St M (Iv (i64.wrap (af+(min1 k l)))) (λv=>qW e b 1 λN=>qD v N λag=>qW e b 1 λO=>St O (Iv (i64.wrap (ag-(min1 k l)))) (λZ=>(C (i64.wrap (o-(min1 k l))) (i64.wrap (b+1)) Z)) v) d) ((B o d)))) Q)
def K0(c:ch)(target:Int):=
 NN c λa=>qZ w a 0 λe=>qJ ss #[Pv e,Iv target] w λf b=>qF xE #[Pv c,Iv target,Sv f,.bool true] b λg d=>K (.bool g) d
def K2(s:ch):=
 NN s λa=>qK w a 0 λb=>K (Iv ((b.n:Nat):Int)) w
def K3(s:ch)(file:Int):=
 qg (λa=>ed file 0 (K (Iv 0) w) (NN s λa4=>qK w a4 0 λd=>cond (decide (file≥((d.n:Nat):Int))) (K (Iv 0) w) (a w))) λw2=>NN s λb=>qK w2 b 0 λe=>qW e file 1 λc=>qD w2 c λf=>K (Iv f) w2
def K4(c:ch)(j k g:Int):=
 Al (.cells #[Iv j,Iv k] 54) (λp w2=>qg (λL=>Dr (λq=>NN c λM=>qZ q M 7 λO=>zZ q p λP y=>zQ xN #[Pv O,.agg #[Iv P,Iv y]] q λQ z d=>cond (z !=0) (K (.tuple #[Iv (-1),Iv (-1),Iv 2]) d) (NN c λr=>qZ d r 0 λA=>qF j8 #[Pv A,Iv g] d λB m=>dX B (K (.tuple #[Iv (-1),Iv (-1),Iv 2]) m) (L m))) w2) λN=>Dr (λe=>NN c λs=>qZ e s 10 λC=>zZ e p λD E=>qQ Ck #[Pv C,.agg #[Iv D,Iv E]] e λh n=>q9 (λl=>ed h 0 (Dr (λf=>NN c λa33=>qZ f a33 10 λF=>zZ f p λG H=>qj Cl #[Pv F,.agg #[Iv G,Iv H],Iv g] f λI R v=>l I v) n) (l h n)) λa u=>qj Cj #[Pv c,Iv a,Iv g] u λo i b=>cond (i==0) (K (.tuple #[Iv a,Iv (-1),Iv 0]) b) (ed h 0 (NN c λt=>qZ b t 10 λJ=>qQ BX #[Pv J,Iv a] b λS x=>K (.tuple #[Iv (-1),Iv o,Iv i]) x) (K (.tuple #[Iv (-1),Iv o,Iv i]) b))) N) w
def K5(c:ch)(id:Int):=
 NN c λm=>qZ w m 10 λo=>qX px #[Pv o,Iv id] w λp q r s t g h i j k n=>qV n λb e=>qU [Iv p,Iv q,Iv r,Iv s,Iv t,Iv g,Iv h,.bool i,.bool j] b e λf=>Dr (λa=>qL a b 3 λd=>cond (k==0) (qL a b 2 λl=>K (.tuple #[Iv d,.bool (l==1)]) a) (K (.tuple #[Iv d,.bool false]) a)) f
def K6(s:ch)(i a:Int):=
 qR sx #[Pv s,Iv i] w λc b=>cond c.isNone (K (.tuple #[.int .u8 0,Iv 1]) b) (ed a 0 (K (.tuple #[.int .u8 0,Iv 1]) b) (cond (decide (a≥16)) (K (.tuple #[.int .u8 0,Iv 1]) b) (NN c λa4=>cM (some a4) 16 a 1 λa5=>∃d:Int,b.cell? a5=some (.int .u8 d)/\K (.tuple #[.int .u8 d,Iv 0]) b)))
def K7(l:ch)(id:Int):=
 NN l λk=>qM w k 0 λn=>∃h:Int,∃i:Int,∃j:Bool,gr P 140 (.map n) (Iv id) true w (.tuple #[.agg #[Iv h,Iv i],.bool j])/\qw w λd m=>qU [Iv h,Iv i] d m λe=>dX j (K (Iv 2) e) (Dr (λb=>NN l λc=>qM b c 0 λf=>qL b d 0 λg=>∃a:bH,Sem.run P (Instr.mapUpdate 140 (.map f) (Iv id) (.agg #[Iv g,Iv 0])) b=.ok () a/\K (Iv 0) a) e)
def K8(c:ch)(id g:Int):=
 NN c λH=>qZ w H 10 λJ=>qX px #[Pv J,Iv id] w λL M N O P l m n o p I=>qV I λb i=>qU [Iv L,Iv M,Iv N,Iv O,Iv P,Iv l,Iv m,.bool n,.bool o] b i λd=>qg (λf=>cond (p !=0) (K (.tuple #[Iv (-1),Iv (-1),Iv 2]) d) (NN c λh=>qZ d h 0 λq=>qF j8 #[Pv q,Iv g] d λr a=>dX r (K (.tuple #[Iv (-1),Iv (-1),Iv 2]) a) (qL a b 2 λs=>cond (s==0) (K (.tuple #[Iv (-1),Iv (-1),Iv 2]) a) (f a)))) λe=>qY e b λt u v x y z A B C=>zJ uO #[Pv c,.agg #[Iv t,Iv u,Iv v,Iv x,Iv y,Iv z,Iv A,.bool B,.bool C]] e λD j=>zX Cm #[Pv c,Iv g,.string D] j λE F G k=>K (.tuple #[Iv E,Iv F,Iv G]) k
def K9(c:ch)(g:Int):=
 NN c λj=>qZ w j 0 λl=>qF j8 #[Pv l,Iv g] w λm b=>dX m (K (.tuple #[Iv (-1),Iv (-1),Iv 2]) b) (∃h:Sl,∃a:bH,Sem.run P (Instr.makeSlice 272 (Iv 16) (Iv 16)) b=.ok (Sv h) a/\∃i:ByteArray,tR P 272 9 (Sv h) a (.string i)/\zX Cm #[Pv c,Iv g,.string i] a λd e f k=>K (.tuple #[Iv d,Iv e,Iv f]) k)
def La(s:ch)(i a b:Int):=
 qR sx #[Pv s,Iv i] w λd c=>cond d.isNone (K (Iv 1) c) (ed a 0 (K (Iv 1) c) (cond (decide (a≥16)) (K (Iv 1) c) (NN d λa4=>cM (some a4) 16 a 1 λa5=>St a5 (.int .u8 b) (λe=>K (Iv 0) e) c)))
def Lb(t:ch)(id:Int)(e9:Bool):=
 Al (.cells #[.bool e9] 4) (λa w2=>qQ xI #[Pv t,Iv id,(.func (.func Cn) #[] #[Pv (some a)])] w2 λc b=>K (Iv c) b) w
def Lc(s:Sl):=
 cond s.p.isNone (K (aN8) w) (zY #[] w λc w2=>∃b:Sl,∃a:bH,Sem.run P (Builtin.append_ #[109,109] 109 #[.slice (some c) 0 0,Sv s]) w2=.ok (Sv b) a/\K (Sv b) a)
def Ld(t:ch)(id n:Int):=
 NN t λe=>qM w e 0 λh=>∃a:ch,gr P 117 (.map h) (Iv id) false w (Pv a)/\cond a.isNone (K (.tuple #[Iv 0,Iv 2]) w) (cond (decide (n<(-1000))) (K (.tuple #[Iv 0,Iv 1]) w) (cond (decide (n>1000)) (K (.tuple #[Iv 0,Iv 1]) w) (NN a λa4=>qL w a4 5 λi=>cond (decide ((i64.wrap (i+n))<0)) (K (.tuple #[Iv 0,Iv 1]) w) (NN a λf=>qL w f 5 λj=>NN a λg=>St (g.add 5) (Iv (i64.wrap (j+n))) (λc=>NN a λb=>qL c b 5 λd=>K (.tuple #[Iv d,Iv 0]) c) w))))
def Le(c:ch)(id k l m n o p q:Int)(r s:Bool):=
 Al (.cells #[Iv k,Iv l,Iv m,Iv n,Iv o,Iv p,Iv q,.bool r,.bool s] 57) (λa w2=>qh (λj=>qL w2 (a.add 0) 0 λL=>cond (decide (L≥0)) (qy w2 a 8 λM=>j M w2) (j false w2)) λJ u=>cond J (Dr (λd=>NN c λe=>qZ d e 7 λg=>zZ d (a.add 0) λh i=>qY d a λv x y z A B C D E=>zJ uO #[Pv c,.agg #[Iv v,Iv x,Iv y,Iv z,Iv A,Iv B,Iv C,.bool D,.bool E]] d λF b=>zZ b (a.add 0) λG H=>((.agg #[Iv G,Iv H]):bE)=(.agg #[Iv h,Iv i])/\qG b e 7 (Pv g) λN=>qQ Co #[Pv g,.agg #[Iv h,Iv i],.string F] b λO f=>NN c λa32=>qZ f a32 10 λI=>qQ BT #[Pv I,Iv id,.bool false] f λP t=>K aN4 t) u) (K aN4 u)) w
def Lf(c d e:ch)(a:Int)(chain:Sl):=
 Al (.cells #[Pv c,Pv d,Pv e] 76) (λb w2=>qZ w2 b 1 λj=>qQ Jd #[Pv j,Iv a] w2 λn g=>qZ g b 0 λk=>qQ Je #[Pv k,Iv a] g λl h=>qZ h b 2 λi=>qQ sr #[Pv i,Sv chain,Iv 1] h λm f=>K aN4 f) w
def Lg(l:ch)(id:Int):=
 NN l λg=>qM w g 0 λj=>∃d:Int,∃e:Int,∃f:Bool,gr P 140 (.map j) (Iv id) true w (.tuple #[.agg #[Iv d,Iv e],.bool f])/\qw w λh i=>qU [Iv d,Iv e] h i λb=>dX f (K (Iv 2) b) (NN l λa9=>qM b a9 0 λc=>∃a:bH,Sem.run P (Builtin.delete_ #[140,3] 0 #[.map c,Iv id]) b=.ok (.tuple #[]) a/\K (Iv 0) a)
def Lh(t:ch)(id place a:Int):=
 NN t λak=>qM w ak 0 λam=>∃b:ch,gr P 117 (.map am) (Iv id) false w (Pv b)/\cond b.isNone (K (Iv 2) w) (ed place 0 (K (Iv 1) w) (cond (decide (place>2)) (K (Iv 1) w) (ed a 0 (K (Iv 1) w) (cond (place==0) (cond (a !=0) (K (Iv 1) w) (qQ Cp #[Pv t,Iv place,Iv a] w λah v=>cond (decide (ah≥0)) (cond (ah !=id) (K (Iv 4) v) (Dr (λk=>NN t λal=>qM k al 2 λan=>NN b λx=>qL k x 2 λT=>NN b λy=>qL k y 3 λU=>∃l:bH,Sem.run P (Builtin.delete_ #[120,276] 0 #[.map an,.agg #[Iv T,Iv U]]) k=.ok (.tuple #[]) l/\NN b λz=>St (z.add 2) (Iv place) (λQ=>NN b λA=>St (A.add 3) (Iv a) (λf=>cond (place !=0) (NN t λB=>qM f B 2 λV=>∃m:bH,Sem.run P (Instr.mapUpdate 120 (.map V) (.agg #[Iv place,Iv a]) (Iv id)) f=.ok () m/\K (Iv 0) m) (K (Iv 0) f)) Q) l) v)) (Dr (λc=>NN t λa23=>qM c a23 2 λW=>NN b λa25=>qL c a25 2 λX=>NN b λa27=>qL c a27 3 λY=>∃n:bH,Sem.run P (Builtin.delete_ #[120,276] 0 #[.map W,.agg #[Iv X,Iv Y]]) c=.ok (.tuple #[]) n/\NN b λC=>St (C.add 2) (Iv place) (λR=>NN b λa32=>St (a32.add 3) (Iv a) (λg=>cond (place !=0) (NN t λD=>qM g D 2 λZ=>∃o:bH,Sem.run P (Instr.mapUpdate 120 (.map Z) (.agg #[Iv place,Iv a]) (Iv id)) g=.ok () o/\K (Iv 0) o) (K (Iv 0) g)) R) n) v))) (qQ Cp #[Pv t,Iv place,Iv a] w λu h=>cond (decide (u≥0)) (cond (u !=id) (K (Iv 4) h) (Dr (λd=>NN t λa41=>qM d a41 2 λaa=>NN b λE=>qL d E 2 λab=>NN b λF=>qL d F 3 λad=>∃p:bH,Sem.run P (Builtin.delete_ #[120,276] 0 #[.map aa,.agg #[Iv ab,Iv ad]]) d=.ok (.tuple #[]) p/\NN b λG=>St (G.add 2) (Iv place) (λS=>NN b λH=>St (H.add 3) (Iv a) (λi=>cond (place !=0) (NN t λI=>qM i I 2 λae=>∃q:bH,Sem.run P (Instr.mapUpdate 120 (.map ae) (.agg #[Iv place,Iv a]) (Iv id)) i=.ok () q/\K (Iv 0) q) (K (Iv 0) i)) S) p) h)) (Dr (λe=>NN t λJ=>qM e J 2 λaf=>NN b λL=>qL e L 2 λag=>NN b λM=>qL e M 3 λai=>∃r:bH,Sem.run P (Builtin.delete_ #[120,276] 0 #[.map af,.agg #[Iv ag,Iv ai]]) e=.ok (.tuple #[]) r/\NN b λa63=>St (a63.add 2) (Iv place) (λcR=>NN b λN=>St (N.add 3) (Iv a) (λj=>cond (place !=0) (NN t λO=>qM j O 2 λaj=>∃s:bH,Sem.run P (Instr.mapUpdate 120 (.map aj) (.agg #[Iv place,Iv a]) (Iv id)) j=.ok () s/\K (Iv 0) s) (K (Iv 0) j)) cR) r) h))))))
def Li(t:ch)(id:Int):=
 NN t λk=>qM w k 0 λm=>∃b:ch,gr P 117 (.map m) (Iv id) false w (Pv b)/\cond b.isNone (K (Iv 2) w) (NN b λa4=>qL w a4 5 λn=>cond (decide (n>0)) (K (Iv 4) w) (NN b λl=>qL w l 2 λo=>cond (o !=0) (K (Iv 4) w) (Dr (λd=>NN t λa9=>qM d a9 1 λg=>NN b λe=>zZ d (e.add 0) λh i=>∃a:bH,Sem.run P (Builtin.delete_ #[119,54] 0 #[.map g,.agg #[Iv h,Iv i]]) d=.ok (.tuple #[]) a/\NN t λf=>qM a f 0 λj=>∃c:bH,Sem.run P (Builtin.delete_ #[117,3] 0 #[.map j,Iv id]) a=.ok (.tuple #[]) c/\K (Iv 0) c) w)))
variable{K w}
def Wb(x)(h:KL K w x):=bM (z8 [4,5,7,8,10,11,13,14,16,18,19,22,23,26,27,30,31,33,34]) #[.int .u64 x] K w func108 h
def sB:dO:={}
def CY:Nat->Bool:=λd=>[].contains d
def Wc(s:Sl)(seq:bE)(K:bg1)(w:bH):m1 P fF gL cz sB CY f109 #[(.slice s.p s.n s.c),seq] K w=CW K w s seq:=by kernel_rfl
def Wd:m2 P sB f109 2=true:=by kernel_rfl
def We(s:Sl)(seq:bE){K:bg1}{w:bH}(h:CW K w s seq):Calls P IB #[(Sv s),seq] w (cA K):=nU mixed func109 Wd (by rw[Wc];exact h)
def Lj(d:Addr)(j:Int)(c:Nat)(w:bH)(R:Ending->bg0):Prop:=
 lf c (λg=>qc g d λi=>qC #[Iv j] g λh e=>∃b:Sl,∃a:bH,Sem.run P (Builtin.append_ #[22,22] 22 #[Sv i,.slice (some h) 1 1]) e=.ok (Sv b) a/\St d (Sv b) (λf=>e2 c none R f) a) w
def Wf(s:Sl)(seq:bE)(b:Addr)(c:Int)(a:Nat)(w:bH)(R:Ending->bg0):mo P fF gL cz sB CY 13 a (j6 f109.body) (j7 f109.body) (lj [(7,.int .i64 c)] ((((jg [(.slice s.p s.n s.c),seq] 0 .nil).put (some 2) (.pointer (some b))).put (some 4) (aN8)).put (some 6) seq)) w R=Lj b c a w R:=by kernel_rfl
def Wg:gK P 13 sB (j6 f109.body)=true/\gK P 13 sB (j7 f109.body)=true:=⟨by kernel_rfl,by kernel_rfl⟩
def Lk:dO:={quiet:=λd=>[11].contains d,loop:=λr=>(bif r==1 then[]else[])}
def Wh:Nat->Bool:=λd=>[23].contains d
def Wi(yield:bE)(b a:Addr)(K:bg1)(w:bH):m1 P fF gL cz Lk Wh f110 #[yield,(.pointer (some b)),(.pointer (some a))] K w=CX K w yield b a:=by kernel_rfl
def Wj:m2 P Lk f110 3=true:=by kernel_rfl
def Wk(yield:bE)(b a:Addr){K:bg1}{w:bH}(h:CX K w yield b a):Calls P sq #[yield,(Pv (some b)),(Pv (some a))] w (cA K):=nU mixed func110 Wj (by rw[Wi];exact h)
def Wl(n)(h:KM K w n):=bM (z8 [4,5,8,9,10]) #[Iv n] K w func111 h
def Wm(t parent)(h:KN K w t parent):=bM (z8 [15,21,22,38,39]) #[Pv t,Iv parent] K w func112 h
def Wn(t g)(h:KO K w t g):=bM {} #[Pv t,Iv g] K w func113 h
def Wo(t g)(h:KP K w t g):=bM (z8 [7,17,18]) #[Pv t,Iv g] K w func114 h
def Wp(t owner)(h:KQ K w t owner):=bM {} #[Pv t,Iv owner] K w func115 h
def Wq(t id owner)(h:KR K w t id owner):=bM {} #[Pv t,Iv id,Iv owner] K w func116 h
def Wr(l a b)(h:KS K w l a b):=bM (z8 [8,11] [] [] [(3,[])]) #[Pv l,Iv a,Iv b] K w func117 h
def Ws(c chain n)(h:KT K w c chain n):=bM (z8 [19,21,23,34,39] [(8,[jQ 14],[13])] [(6,[(22,jZ)])]) #[Pv c,Sv chain,Iv n] K w func118 h
def Wt(c g n)(h:KU K w c g n):=bM (z8 [] [] [] [(3,[])]) #[Pv c,Iv g,Iv n] K w func119 h
def Wu(t g)(h:KV K w t g):=bM {} #[Pv t,Iv g] K w func121 h
def Wv(l group)(h:KW K w l group):=bM {} #[Pv l,Iv group] K w func122 h
def Ww(c target own)(h:KX K w c target own):=bM {(z8 [18,20,50,55,58,60,70] [(7,[[0,1,3,4,2,6,5,7,8,9]],[2,5,7,9])] [(3,[(7,.slice),(19,jZ)]),(13,[(59,jZ)])] [(8,[])]:dO)with dyn:=λd=>[43].contains d} #[Pv c,Iv target,own] K w func123 h
def Wx(a b c)(h:V9 K w a b c):=bM {} #[.agg #[Iv a,Iv b,.bool c]] K w func124 h
def Wy(a b c)(h:Wa K w a b c):=bM {} #[.agg #[Iv a,Iv b,.bool c]] K w func125 h
def Wz(l group)(h:KY K w l group):=bM {(z8 [20,22] [] [(3,[(5,jZ)])]:dO)with Au:=λd=>(bif d==15 then[.one .raw,.agg [.int .i64,.int .i64]]else[.one .raw,.one .raw])} #[Pv l,Iv group] K w func126 h
def WA(n weights)(h:KZ K w n weights):=bM (z8 [15,20,24,29,31,40,46,53,57,58] [(3,[[0,1,3,2,4,5,6],[0,1,3,4,2,5,6]],[2,4])] [(4,[(0,jZ)]),(6,[(0,jZ),(30,jZ)])] [(5,[])]) #[Iv n,Sv weights] K w func127 h
def WB(c target)(h:K0 K w c target):=bM {} #[Pv c,Iv target] K w func129 h
def WC(s)(h:K2 K w s):=bM (z8 [7]) #[Pv s] K w func132 h
def WD(s file)(h:K3 K w s file):=bM (z8 [6,13,14] [] [] [(3,[])]) #[Pv s,Iv file] K w func133 h
def WE(c a b g)(h:K4 K w c a b g):=bM (z8 [25,42,63] [(1,[jQ 11],[5]),(4,[jQ 7],[5]),(7,[jQ 11],[6])] [] [(4,[]),(8,[(11,jZ)])]) #[Pv c,.agg #[Iv a,Iv b],Iv g] K w func140 h
def WG(c id)(h:K5 K w c id):=bM {(z8 [20,24]:dO)with head:=λr=>(bif r==2 then 11 else 0)} #[Pv c,Iv id] K w func143 h
def WH(s i a)(h:K6 K w s i a):=bM (z8 [13,16,20]) #[Pv s,Iv i,Iv a] K w func144 h
def WI(l id)(h:K7 K w l id):=bM (z8 [] [(4,[jQ 9],[8])]) #[Pv l,Iv id] K w func145 h
def WJ(c id g)(h:K8 K w c id g):=bM (z8 [21,34] [] [] [(4,[])]) #[Pv c,Iv id,Iv g] K w func149 h
def WK(c g)(h:K9 K w c g):=bM (z8 [17]) #[Pv c,Iv g] K w func150 h
def WL(s i a b)(h:La K w s i a b):=bM (z8 [14,17,21]) #[Pv s,Iv i,Iv a,.int .u8 b] K w func151 h
def WM(t id e9)(h:Lb K w t id e9):=bM {} #[Pv t,Iv id,.bool e9] K w func152 h
def WN(s)(h:Lc K w s):=bM (z8 [4]) #[Sv s] K w func153 h
def WO(t id n)(h:Ld K w t id n):=bM (z8 [17,20,23,31,32,39]) #[Pv t,Iv id,Iv n] K w func155 h
def WQ(c id a b d e f g i j k)(h:Le K w c id a b d e f g i j k):=bM (z8 [9] [(2,[jQ 10],[8,9])] [] [(2,[(13,.bool)])]) #[Pv c,Iv id,.agg #[Iv a,Iv b,Iv d,Iv e,Iv f,Iv g,Iv i,.bool j,.bool k]] K w func156 h
def WR(b c d a chain)(h:Lf K w b c d a chain):=bM {} #[.agg #[Pv b,Pv c,Pv d],Iv a,Sv chain] K w func157 h
def WS(l id)(h:Lg K w l id):=bM {} #[Pv l,Iv id] K w func158 h
def WT(t id place a)(h:Lh K w t id place a):=bM (z8 [19,22,25,29,33,36,44,48,72] [(9,[jQ 14],[13])]) #[Pv t,Iv id,Iv place,Iv a] K w func159 h
def WU(t id)(h:Li K w t id):=bM (z8 [14,20,26] [(6,[jQ 9],[8])]) #[Pv t,Iv id] K w func160 h
end Go.Mp
