/- Part of a proof about the core: of its walks and plain laws. -/
import Derived.Test.YtafigbgagbolgaaGreatDoorC05
import Derived.Lib.TrailingZeros
import Derived.ProofKit
import Derived.OpenVars
import Derived.Shelf.SlIterI.Nil
import Derived.Shelf.SortM.Plain
import Derived.Shelf.SortM.SortNone
set_option linter.all false
set_option maxRecDepth 100000
open Go.IntKind(i64 u64)
namespace Go.Kc
open Go Go.Vc
def nB(n:Int):u64.wrap n=n%18446744073709551616:=by
 unfold IntKind.wrap;simp[IntKind.signed,IntKind.bits]
def dj{n:Nat}(h:n<18446744073709551616:=by omega):u64.wrap (n:Int)=(n:Int):=by rw[nB];omega
def o2(n:Nat):u64.wrap (n:Int)=((n%18446744073709551616:Nat):Int):=by rw[nB];omega
def pZ(a:Nat)(h:a<18446744073709551616):(BitVec.ofInt 64 (a:Int)).toNat=a:=by
 rw[q6,q8];exact lQ bA
def nC{a b:Nat}(d:a<18446744073709551616:=by omega)(c:b<18446744073709551616:=by omega):bV .u64 (a:Int) (b:Int)=((a &&& b:Nat):Int):=by
 show u64.wrap ((BitVec.ofInt 64 (a:Int) &&& BitVec.ofInt 64 (b:Int)).toNat:Int)=_;rw[uR,pZ a d,pZ b c];exact dj (Nat.and_lt_two_pow (n:=64) _ c)
def vN{a b:Nat}(c:a<18446744073709551616)(d:b<18446744073709551616):iG .u64 (a:Int) (b:Int)=((a ||| b:Nat):Int):=by
 show u64.wrap ((BitVec.ofInt 64 (a:Int) ||| BitVec.ofInt 64 (b:Int)).toNat:Int)=_;rw[BitVec.toNat_or,pZ a c,pZ b d];exact dj (Nat.or_lt_two_pow (n:=64) c d)
def Zn{a b:Nat}(c:a<18446744073709551616)(d:b<18446744073709551616):oK .u64 (a:Int) (b:Int)=((a ^^^ b:Nat):Int):=by
 show u64.wrap ((BitVec.ofInt 64 (a:Int) ^^^ BitVec.ofInt 64 (b:Int)).toNat:Int)=_;rw[BitVec.toNat_xor,pZ a c,pZ b d];exact dj (GY (n:=64) c d)
def Zo{a:Nat}(b:a<18446744073709551616):oL .u64 (a:Int)=((18446744073709551615 ^^^ a:Nat):Int):=by
 show u64.wrap ((BitVec.ofInt 64 ((18446744073709551615:Nat):Int) ^^^ BitVec.ofInt 64 (a:Int)).toNat:Int)=_;rw[BitVec.toNat_xor,pZ a b,pZ _ bA];exact dj (GY (n:=64) bA b)
def sh(n k:Nat):(n:Int).fdiv (2^k)=((n/2^k:Nat):Int):=by
 rw[TQ _ (by exact_mod_cast ec (2^k))]
 exact_mod_cast rfl
def wd:List Bool->Nat
 |[]=>0
 |b::r=>b.toNat+2*wd r
def y7:∀(l:List Bool) (k:Nat),(wd l).testBit k=l.getD k false
 |[],k=>by simp[wd]
 |b::r,0=>by
  unfold wd;rw[Nat.testBit_zero];cases b<;>simp
 |b::r,k+1=>by
  unfold wd;rw[Nat.testBit_succ,show(b.toNat+2*wd r)/2=wd r by cases b<;>simp<;>omega,y7 r k];simp
def ND:∀(l:List Bool),wd l<2^l.length
 |[]=>by simp[wd]
 |b::r=>by
  have:=ND r;unfold wd;rw[hS,m9];have:b.toNat<=1:=by cases b<;>simp
  omega
def Zp{l:List Bool}(h:l.length<=64):wd l<18446744073709551616:=
 mz (ND l) (uJ bO h)
def Zq{l:List Bool}{k:Nat}:wd l &&& 2^k=if l.getD k false then 2^k else 0:=by
 rw[<- y7];apply uK;intro i;rw[Hc,sI];by_cases e:k=i
 ·subst e;cases h:(wd l).testBit k<;>simp
 ·rw[c4 e,sN];split;·rw[sI,c4 e]
  ·simp
def Zr{y:Nat}(a:y≠0)(h:y<18446744073709551616):Lib.ctz 64 y<64/\y.testBit (Lib.ctz 64 y)=true/\∀i,i<Lib.ctz 64 y->y.testBit i=false:=by
 unfold Lib.ctz;rw[bJ a];obtain⟨m,hm,b⟩:=Lib.ctzFrom_spec 64 y bA (by simpa using h);generalize Lib.ctzFrom 64 y=c at*
 refine⟨b,?_,λi d=>?_⟩;·rw[hm,Nat.testBit_two_pow_mul];simp
 ·rw[hm,Nat.testBit_two_pow_mul];simp;omega
def Zs{a i:Nat}(b:i<64):(18446744073709551615 ^^^ a).testBit i= !a.testBit i:=by
 rw[Nat.testBit_xor,show(18446744073709551615:Nat)=2^64-1 by decide,Nat.testBit_two_pow_sub_one,dh b];cases a.testBit i<;>rfl
def Zt(x a:Nat)(hx:x<18446744073709551616)(d:x≠0)(b:x &&& (18446744073709551616-x)=a):
  (u64.wrap ((bV .u64 (x:Int) (u64.wrap (0-(x:Int))))*285870213051353865)).fdiv (2^(min (58:Int).toNat 64))=((a*285870213051353865%18446744073709551616/288230376151711744:Nat):Int):=by
 have c:u64.wrap (0-(x:Int))=((18446744073709551616-x:Nat):Int):=by rw[nB];omega
 rw[c,nC hx,b,show((a:Int)*285870213051353865)=((a*285870213051353865:Nat):Int) by omega,o2];exact sh _ 58
end Go.Kc
namespace Go.Sp
open Go Go.Vc
section
variable{E:Env}{L:ch}{w:World}{P:Program}
def Sep.putObj{b:Nat}{o o':Obj}(h:Sep E (c2 b o::L) w):Sep E (c2 b o'::L) (w.putObj b o'):=by
 have f:=h.dp;have c:b<w.heap.size:=(pv.1 f).1;refine h.change (A':=c2 b o') rfl (by simp) (λF a g=>⟨λx _ d=>?_,F,⟨?_,a.2⟩,λx hx=>⟨?_,.inl hx⟩⟩);·exact World.putObj_heap_other (λe=>d ((a.2 x).2 e))
 ·exact World.putObj_heap_same c
 ·simpa using g x hx
def kU.i{l:Nat}{r:Loop}{f:bh6}(h:Sep E (c2 l (.loop r)::L) w)(b:r.state=.ready)(k:∀a,Sep E (c2 l (.loop {r with state:=.busy})::L) a->f a):kU l f w:=
 ⟨r,h.dp,b,k _ h.putObj⟩
def e0.i{l:Nat}{r:Loop}{j:Option Code}{R:Ending->bh6}(h:Sep E (c2 l (.loop r)::L) w)(k:∀a,Sep E (c2 l (.loop {r with state:=if j.isNone then .ready else .done,pending:=j})::L) a->R (.returned (.bool j.isNone)) a):e0 l j R w:=
 ⟨r,h.dp,k _ h.putObj⟩
def D7(P:Program)(E:Env)(f:FuncId)(b:Value->Array Value)(A A' S:Asn)(xs:List Value):Prop:=
 ∀(l:Nat) (J X:Nat->Asn),(∀L k x W,xs[k]?=some x->Sep E (J k::S::L) W->YieldAt Fence.wide 0 P l #[x] W (λe a=>
   (e=.returned (.bool true)/\Sep E (J (k+1)::S::L) a)\/(e=.returned (.bool false)/\Sep E (X k::S::L) a)))->
  ∀L W,Sep E (J 0::S::A::L) W->Calls P f (b (.func (.yield l) #[] #[])) W (λe a=>(∃v,e=.returned v)/\(Sep E (J xs.length::S::A'::L) a\/∃k,k<xs.length/\Sep E (X k::S::A'::L) a))
def ib.D8{τ:TypeId->K1}{ρ:TypeId->Kd}{cz:FuncId->Bool}{An:dS}{yl:Nat->Bool}{N p:Nat}{f:FuncId}{fi ca:Array Value}{J:Value->Array Value}{A A' S:Asn}{xs:List Value}{a body c:Code}{T:Tr}{done ret:Nat->bh6}(O:∀y,J y=fi++ #[y]++ca)(hm:P.follows .mixedOrders=true)(Y:N<=8000)(hp:p<N)(u:gF P N An a=true/\gF P N An body=true)(hf:ky P f=true)(ad:D7 P E f J A A' S xs)(g G:Nat->Asn)(n:∀(l:Nat) (r:Loop) L k x W R,r.state=.ready->r.pending=none->xs[k]?=some x->Sep E (c2 l (.loop r)::g k::S::L) W->(∀d,Sep E (c2 l (.loop r)::g (k+1)::S::L) d->R (.returned (.bool true)) d)->
   (∀d,Sep E (c2 l (.loop {r with state:=.done,pending:=some c})::G k::S::L) d->R (.returned (.bool false)) d)->ma P τ ρ cz An yl N l a body (kW [(p,x)] T) W R)(h:Sep E (g 0::S::A::L) w)(q:∀b W,Sep E (c2 b (.deferred (some []))::g xs.length::S::A'::L) W->done b W)(H:∀b k W,k<xs.length->Sep E (c2 b (.deferred (some []))::G k::S::A'::L) W->ret b W):ib P N (.func (.func f) fi ca) #[p] a body c T w done ret:=by
 refine⟨f,fi,ca,_,rfl,O _,hf,λfn I Q V=>?_⟩;have h1:=h.ns (.deferred (some []));have o:=h1.ns (.loop (tt fn I #[p] a body w.heap.size));rw[size_alloc]at o;generalize i:tt fn I #[p] a body w.heap.size=r at o ⊢;have z:r.state=.ready:=by rw[<- i];rfl
 have B:r.pending=none:=by rw[<- i];rfl
 have m:r.params= #[p]:=by rw[<- i];rfl
 have C:r.tmps=I:=by rw[<- i];rfl
 have D:r.assign=a:=by rw[<- i];rfl
 have F:r.body=body:=by rw[<- i];rfl
 generalize w.heap.size=b at o ⊢;have X:Sep E (star (c2 (b+1) (.loop r)) (star (c2 b (.deferred (some []))) (g 0))::S::A::L) ((w.alloc (.deferred (some []))).alloc (.loop r)):=
  Sep.star.2 ((Sep.star.2 ((o.ro 3 [1,2,0] rfl))).swap)
 refine Calls.mono (ad (b+1) (λk=>star (c2 (b+1) (.loop r)) (star (c2 b (.deferred (some []))) (g k))) (λk=>star (c2 (b+1) (.loop {r with state:=.done,pending:=some c})) (star (c2 b (.deferred (some []))) (G k)))
  (λL' k x W hx aa=>?_) L _ X) (λe d he=>?_)
 ·have M:=Sep.star.1 ((Sep.star.1 aa).swap);have s:Sep E (c2 (b+1) (.loop r)::g k::S::c2 b (.deferred (some []))::L') W:=M.ro 4 [2,1,3,0] rfl;refine VY (τ:=τ) (ρ:=ρ) (cz:=cz) (A:=An) (yl:=yl) (N:=N) (T:=T) hm Y s.dp (by rw[m];rfl) (by rw[C];exact Q) (by rw[C];exact V) (λt U=>?_) (by rw[D];exact u.1) (by rw[F];exact u.2) ?_
  ·rw[m]at U;have:t=p:=by simpa using U
   rw[this];exact hp
  ·have ae:(r.params.zip #[x]).toList= [(p,x)]:=by rw[m,Array.toList_zip];rfl
   have key:∀R,ma P τ ρ cz An yl N (b+1) a body (kW [(p,x)] T) W R->ma P τ ρ cz An yl N (b+1) r.assign r.body (kW (r.params.zip #[x]).toList T) W R:=by
    intro R Z;rw[ae,D,F];exact Z
   refine key _ (n (b+1) r _ k x W _ z B hx s (λd h'=>.inl ⟨rfl,?_⟩) (λd h'=>.inr ⟨rfl,?_⟩));·exact Sep.star.2 ((Sep.star.2 (h'.ro 4 [3,1,0,2] rfl)).swap)
   ·exact Sep.star.2 ((Sep.star.2 (h'.ro 4 [3,1,0,2] rfl)).swap)
 ·obtain⟨⟨v,rfl⟩,he⟩:=he;rcases he with he|⟨k,ab,he⟩
  ·have j:=Sep.star.1 he;refine⟨r,j.dp,by rw[z];simp,?_⟩;have K:=(j.putObj (o':=.loop {r with state:=.exhausted})).tail;generalize d.putObj (b+1) (.loop {r with state:=.exhausted})=af at K ⊢;rw[B];exact q _ _ (Sep.star.1 K)
  ·have j:=Sep.star.1 he;exact⟨_,j.dp,by simp,rfl,H _ k _ ab (Sep.star.1 (j.putObj).tail)⟩
def y8(P:Program)(E:Env)(f:FuncId)(b:Value->Array Value)(A A':Asn)(xs:List Value):Prop:=
 ∀(l:Nat) (J X:Nat->Asn),(∀L k x W,xs[k]?=some x->Sep E (J k::L) W->YieldAt Fence.wide 0 P l #[x] W (λe a=>
   (e=.returned (.bool true)/\Sep E (J (k+1)::L) a)\/(e=.returned (.bool false)/\Sep E (X k::L) a)))->
  ∀L W,Sep E (J 0::A::L) W->Calls P f (b (.func (.yield l) #[] #[])) W (λe a=>(∃v,e=.returned v)/\(Sep E (J xs.length::A'::L) a\/∃k,k<xs.length/\Sep E (X k::A'::L) a))
abbrev D9(P:Program)(E:Env)(f:FuncId)(ca:Array Value)(A A':Asn)(xs:List Value):Prop:=y8 P E f (λy=> #[y]++ca) A A' xs
def ib.iO{τ:TypeId->K1}{ρ:TypeId->Kd}{cz:FuncId->Bool}{An:dS}{yl:Nat->Bool}{N p:Nat}{f:FuncId}{fi ca:Array Value}{u:Value->Array Value}{A A':Asn}{xs:List Value}{j body c:Code}{T:Tr}{done ret:Nat->bh6}(has:∀y,u y=fi++ #[y]++ca)(hm:P.follows .mixedOrders=true)(G:N<=8000)(hp:p<N)(v:gF P N An j=true/\gF P N An body=true)(hf:ky P f=true)(I:y8 P E f u A A' xs)(a o:Nat->Asn)(m:∀(l:Nat) (r:Loop) L k x W R,r.state=.ready->r.pending=none->xs[k]?=some x->Sep E (c2 l (.loop r)::a k::L) W->(∀i,Sep E (c2 l (.loop r)::a (k+1)::L) i->R (.returned (.bool true)) i)->
   (∀i,Sep E (c2 l (.loop {r with state:=.done,pending:=some c})::o k::L) i->R (.returned (.bool false)) i)->ma P τ ρ cz An yl N l j body (kW [(p,x)] T) W R)(h:Sep E (a 0::A::L) w)(n:∀b W,Sep E (c2 b (.deferred (some []))::a xs.length::A'::L) W->done b W)(t:∀b k W,k<xs.length->Sep E (c2 b (.deferred (some []))::o k::A'::L) W->ret b W):ib P N (.func (.func f) fi ca) #[p] j body c T w done ret:=
 ib.D8 (S:=emp) (A:=A) (A':=A') (xs:=xs) has hm G hp v hf
  (λl J X H L W h=>(I l J X (λL k x W hx h=>(H L k x W hx (Sep.emp.2 h).swap).imp λ_ ⟨b,c,d,e,g⟩=>⟨b,c,d,e,g.mono λ_ _ he=>he.imp (λq=>⟨q.1,Sep.emp.1 q.2.swap⟩) (λq=>⟨q.1,Sep.emp.1 q.2.swap⟩)⟩) L W (Sep.emp.1 h.swap)).mono
   λ_ _ he=>⟨he.1,he.2.imp (λq=>(Sep.emp.2 q).swap) (λ⟨k,s,q⟩=>⟨k,s,(Sep.emp.2 q).swap⟩)⟩)
  a o (λl r L k x W R h1 z B C D F=>m l r (emp::L) k x W R h1 z B C D F) (Sep.emp.2 h).swap (λb W q=>n b W (q.ro 3 [0,1] rfl)) (λb k W s q=>t b k W s (q.ro 3 [0,1] rfl))
def ib.i{τ:TypeId->K1}{ρ:TypeId->Kd}{cz:FuncId->Bool}{An:dS}{yl:Nat->Bool}{N p:Nat}{f:FuncId}{ca:Array Value}{A A':Asn}{xs:List Value}{e body c:Code}{T:Tr}{done ret:Nat->bh6}(hm:P.follows .mixedOrders=true)(o:N<=8000)(hp:p<N)(n:gF P N An e=true/\gF P N An body=true)(hf:ky P f=true)(q:D9 P E f ca A A' xs)(a j:Nat->Asn)(g:∀(l:Nat) (r:Loop) L k x W R,r.state=.ready->r.pending=none->xs[k]?=some x->Sep E (c2 l (.loop r)::a k::L) W->(∀d,Sep E (c2 l (.loop r)::a (k+1)::L) d->R (.returned (.bool true)) d)->
   (∀d,Sep E (c2 l (.loop {r with state:=.done,pending:=some c})::j k::L) d->R (.returned (.bool false)) d)->ma P τ ρ cz An yl N l e body (kW [(p,x)] T) W R)(h:Sep E (a 0::A::L) w)(i:∀b W,Sep E (c2 b (.deferred (some []))::a xs.length::A'::L) W->done b W)(m:∀b k W,k<xs.length->Sep E (c2 b (.deferred (some []))::j k::A'::L) W->ret b W):ib P N (.func (.func f) #[] ca) #[p] e body c T w done ret:=
 ib.iO (fi:= #[]) (λy=>by simp) hm o hp n hf q a j g h i m
end
end Go.Sp
namespace Go.Sp
open Go Go.Vc Go.RowKit Go.ChangeShapes
def Rd(P:Program)(W:World)(t:TypeId)(cs:List Value):Prop:=
 ∃(H:Type) (enc:TypeId×Value->H) (fuel:Nat) (x:DataW H×List MemPlace),DataW.trod enc P W 0 (λ_=>true) true fuel t cs=some x
section
variable{P:Program}{W:World}{t:TypeId}{cs:List Value}
def Rd.int{k:IntKind}(h:Rd P W t cs)(b:P.underlying t=some (.int k)):∃n,cs= [.int k n]/\(Lit.int k n).wf=true:=by
 obtain⟨H,enc,fuel,x,h⟩:=h;obtain⟨n,h1,_,a⟩:=DataW.trod_int b h;exact⟨n,h1,a⟩
def Rd.slice{e:TypeId}(h:Rd P W t cs)(m:P.underlying t=some (.slice e)):∃(p:cg) (n c:Nat),cs= [.slice p n c]/\n<=c/\c<=maxLen/\
  ∀i,i<n->∃a es,p=some a/\es.length=P.cellsOf e/\(∀j,j<P.cellsOf e->W.cell? ((a.add (i*P.cellsOf e)).add j)=es[j]?)/\Rd P W e es:=by
 obtain⟨H,enc,fuel,x,h⟩:=h;rcases DataW.trod_slice m h with⟨rfl,rfl⟩|⟨a,len,cap,elems,rest,n,rfl,rfl,rfl,_,h1,d,o,f,_⟩
 ·exact⟨none,0,0,rfl,dN _,ec _,λi b=>bA⟩
 ·refine⟨some a,len,cap,rfl,h1,d,λi b=>?_⟩;have:=f i b;rw[dL]at this;obtain⟨es,he,l⟩:=Option.bind_eq_some_iff.1 this;obtain⟨_,k,g⟩:=World.cells?_some he;exact⟨a,es,rfl,k,g,H,enc,n,_,l⟩
def Rd.e1{k:IntKind}{v:Value}(h:Rd P W t [v])(b:P.underlying t=some (.int k)):∃n,v=.int k n/\(Lit.int k n).wf=true:=by
 obtain⟨n,h1,a⟩:=h.int b;exact⟨n,by simpa using h1,a⟩
def Rd.u8{v:Value}(h:Rd P W t [v])(b:P.underlying t=some (.int .u8)):∃n:UInt8,v=.int .u8 n.toNat:=by
 obtain⟨n,h1,a⟩:=h.e1 b;have:0<=n/\n<=255:=by simpa[Lit.wf,IntKind.has,IntKind.min,IntKind.max,IntKind.signed,IntKind.bits]using a
 refine⟨n.toNat.toUInt8,?_⟩;have e:(n.toNat.toUInt8.toNat:Int)=n:=by
  show((n.toNat%2^8:Nat):Int)=n;omega
 rw[e];exact h1
def vO{r:Reach}{base:Nat}{v:Value}(h:Value.okWide P W r base t v)(hp:dW P t=some false):v.cells.toList= [v]:=by
 cases v with
 |agg cs=>
  exfalso;unfold dW at hp;cases hu:P.underlying t with
  |none=>simp[hu]at hp
  |some d=>cases d<;>simp[Value.okWide,Cell.okWide,Cell.ok,hu]at h hp
 |_=>rfl
end
section
variable{H:Type}{enc:TypeId×Value->H}{P:Program}
def Ea:∀ {ts:List TypeId} {vs:List Value} {a:List (DataW H)} {ps:List MemPlace} {w:World} {b:Nat} {sp:Nat->Bool} {c:Bool},DataW.TrodAll enc P w b sp c ts vs a ps->vs.length=ts.length/\a.length=ts.length
 |[],[],[],_,_,_,_,_,_=>⟨rfl,rfl⟩
 |_::_,_::_,_::_,_,_,_,_,_,⟨_,_,_,h,_⟩=>by have:=Ea h;simp[this]
 |[],_::_,_,_,_,_,_,_,h=>h.elim
 |[],[],_::_,_,_,_,_,_,h=>h.elim
 |_::_,[],_,_,_,_,_,_,h=>h.elim
 |_::_,_::_,[],_,_,_,_,_,h=>h.elim
def NF:∀ {ts:List TypeId} {vs:List Value} {d:List (DataW H)} {ps:List MemPlace} {w:World},DataW.TrodAll enc P w 0 (λ_=>true) true ts vs d ps->
  ∀(j:Nat) t v,ts[j]?=some t->vs[j]?=some v->Rd P w t v.cells.toList
 |[],[],[],_,_,_,j,_,_,h,_=>by simp at h
 |_::_,_::_,_::_,_,_,⟨_,_,⟨fuel,h1⟩,c,_⟩,0,_,_,a,b=>by
  simp only[lo,eF]at a b;subst a b;exact⟨H,enc,fuel,_,h1⟩
 |_::_,_::_,_::_,_,_,⟨_,_,_,c,_⟩,j+1,t,v,a,b=>NF c j t v (by simpa using a) (by simpa using b)
 |[],_::_,_,_,_,h,_,_,_,_,_=>h.elim
 |[],[],_::_,_,_,h,_,_,_,_,_=>h.elim
 |_::_,[],_,_,_,h,_,_,_,_,_=>h.elim
 |_::_,_::_,[],_,_,h,_,_,_,_,_=>h.elim
def NG(g:laidOutB P=true){W d:World}(f:Below W.heap.size W d):∀ {ts:List TypeId} {vs:List Value} {e:List (DataW H)} {ps:List MemPlace},(ts.all λt=>P.readableRec t&&Nat.blt t P.types.size)=true->
  (∀x∈ps,x.block<W.heap.size)->DataW.TrodAll enc P W 0 (λ_=>true) true ts vs e ps->DataW.TrodAll enc P d 0 (λb=>decide (b<W.heap.size)) true ts vs e ps
 |[],[],[],_,_,_,h=>h
 |t::ts,_::_,_::_,_,a,c,⟨p,q,h1,i,j⟩=>by
  subst j;simp only[A8,dG]at a;exact⟨p,q,Below.trod g a.1.1 (by simpa using a.1.2) h1 f (λx hx=>c x (by simp[hx])),NG g f a.2 (λx hx=>c x (by simp[hx])) i,rfl⟩
 |[],_::_,_,_,_,_,h=>h.elim
 |[],[],_::_,_,_,_,h=>h.elim
 |_::_,[],_,_,_,_,h=>h.elim
 |_::_,_::_,[],_,_,_,h=>h.elim
def Zu(w:laidOutB P=true){f:Func}{s:ChangeSpec}{apart fresh handsOn:Bool}{W m:World}{args:Array Value}{a gs:List (DataW H)}{before:List MemPlace}{tb:TypeId}(e:(f.params.toList.all λt=>P.readableRec t&&Nat.blt t P.types.size)=true)(j:varsRowed P s.vars=true)(b:f.resultTypes.toList= [tb])(z:P.underlying tb=some .bool)(i:a.length=f.params.size->gs.length=s.vars.length->s.fn H (a++gs)= {results:=[.lit (.bool true)],args:=a,vars:=gs})(u:DataW.Whole enc P f.params.toList s.vars apart W args.toList a gs before)(l:Below W.heap.size W m):s.post enc P f apart fresh handsOn false W args (.bool true) m:=by
 have k:=u;obtain⟨p,q,o,r,rfl,B,C⟩:=u;have y:∀x∈p++q,x.block<W.heap.size:=λx hx=>k.lt x hx;have hlen:=Ea o;have v:gs.length=s.vars.length:=by
  have go:∀ {d:List String} {gs:List (DataW H)} {ps:List MemPlace},DataW.TrodVars enc P W (λ_=>true) d gs ps->gs.length=d.length:=by
   intro d;induction d with
   |nil=>intro gs ps h;cases gs with
    |nil=>rfl
    |cons _ _=>exact h.elim
   |cons n d A=>intro gs ps h;cases gs with
    |nil=>exact h.elim
    |cons g gs=>
     obtain⟨_,_,_,_,_,_,_,_,_,_,h,_⟩:=h;simp[A h]
  exact go r
 have c:=i (by simpa using hlen.2) v;refine⟨a,gs,p++q,[],p,q,k,?_,?_,?_,l.frame _,λh=>by cases h⟩
 ·rw[c,b];have:f.resultTypes.size=1:=by rw[<- uN,b];rfl
  rw[this];refine⟨[],[],⟨1,?_⟩,rfl,rfl⟩;unfold DataW.trod;rw[z];rfl
 ·rw[c];exact NG w l e (λx hx=>y x (by simp[hx])) o
 ·rw[c];exact Below.trodVars w l j r
def Sep.start(W:World):Sep (World.env W) [dZ W.heap] W:=
 ⟨rfl,λx=>x<W.heap.size,⟨λ_ _=>rfl,λ_=>lS⟩,λ_ a=>⟨a,id⟩,trivial⟩
def Sep.below{L:ch}{W a:World}{i:Nat}(h:Sep (World.env W) L a)(f:L[i]?=some (dZ W.heap)):Below W.heap.size W a:=by
 have h:=h.fr i f;obtain⟨he,F,⟨h1,c⟩,d,_⟩:=h;have e:=he;simp only[World.env,Env.mk.injEq]at e;refine⟨e.1,e.2.1,e.2.2,?_,h1⟩;rcases lq W.heap.size with b|b;·omega
 ·have:=(d (W.heap.size-1) ((c _).2 bA)).1;omega
def Sep.o3{E:Env}{L:ch}{w W:World}{i:Nat}(h:Sep E L w)(d:L[i]?=some (dZ W.heap)){a:Addr}{v:Value}(b:W.cell? a=some v):w.cell? a=some v:=by
 have h:=h.fr i d;have c:a.block<W.heap.size:=by
  rcases gS a.block W.heap.size with h' | h';·exact h'
  ·simp[World.cell?,xv h']at b
 have:=h.j5 a.block c;unfold World.cell? at b ⊢;rw[this];exact b
end
end Go.Sp
namespace Go.Sp
open Go Go.Vc
def eM{ι:Type}(f:ι->Asn):Asn:=
  ⟨λh F=>∃a:ι->Nat->Prop,(∀i,(f i).holds h (a i))/\(∀i j b,i≠j->a i b->¬ a j b)/\∀b,F b↔∃i,a i b,
   λ⟨a,h1,d,c⟩ g=>⟨a,λi=>(f i).loc (h1 i) (λb e=>g b ((c b).2 ⟨i,e⟩)),d,c⟩⟩
section
variable{E:Env}{L:ch}{w:World}{ι:Type}[DecidableEq ι]
def e2(f:ι->Asn)(i:ι)(A:Asn):ι->Asn:=λj=>if j=i then A else f j
omit [DecidableEq ι] in
def eM.nil(h:Sep E L w){f:ι->Asn}(hf:∀i,f i=emp):Sep E (eM f::L) w:=by
 obtain⟨he,h⟩:=h;refine⟨he,λ_=>False,⟨λ_ _=>False,λi=>?_,λ_ _ _ _ h=>h.elim,λb=>⟨λh=>h.elim,λ⟨_,h⟩=>h.elim⟩⟩,λ_ h=>h.elim,h.weaken (λ_ a=>a.elim id id)⟩;rw[hf];exact λ_ h=>h
def eM.out{f:ι->Asn}(h:Sep E (eM f::L) w)(i:ι):Sep E (f i::eM (e2 f i emp)::L) w:=by
 obtain⟨he,F,⟨c,h1,l,d⟩,m,q⟩:=h;refine⟨he,c i,h1 i,λb a=>m b ((d b).2 ⟨i,a⟩),λb=>∃j,j≠i/\c j b,⟨λj b=>j≠i/\c j b,λj=>?_,?_,λb=>lS⟩,?_,?_⟩
 ·unfold e2;split;·next g=>subst g;exact λb a=>a.1 rfl
  ·next g=>
   have e:(λb=>j≠i/\c j b)=c j:=by funext b;simp[g]
   show(f j).holds w.heap (λb=>j≠i/\c j b);rw[e];exact h1 j
 ·intro j k b p a n;exact l j k b p a.2 n.2
 ·rintro b ⟨j,o,a⟩;refine⟨(m b ((d b).2 ⟨j,a⟩)).1,?_⟩;rintro(hu|hu);·exact hu
  ·exact l j i b o a hu
 ·refine q.weaken ?_;rintro b ((hu|hu)|⟨j,o,hu⟩);·exact hu.elim
  ·exact .inr ((d b).2 ⟨i,hu⟩)
  ·exact .inr ((d b).2 ⟨j,hu⟩)
def eM.NH{f:ι->Asn}{i:ι}{A:Asn}(h:Sep E (A::eM f::L) w)(u:f i=emp):Sep E (eM (e2 f i A)::L) w:=by
 obtain⟨he,F,h1,s,G,⟨o,p,r,g⟩,m,t⟩:=h;have q:∀b,¬ o i b:=by
  have:=p i;rw[u]at this;exact this
 refine⟨he,λb=>F b\/G b,⟨λj b=>if j=i then F b else o j b,λj=>?_,?_,λb=>?_⟩,?_,?_⟩
 ·unfold e2;split;·next n=>subst n;simpa using h1
  ·next n=>simpa[n]using p j
 ·intro j k b l a c;by_cases d:j=i
  ·by_cases e:k=i;·exact l (d.trans e.symm)
   ·simp only[d,fP]at a;simp only[e,gq]at c;exact(m b ((g b).2 ⟨k,c⟩)).2 (.inr a)
  ·simp only[d,gq]at a;by_cases e:k=i
   ·simp only[e,fP]at c;exact(m b ((g b).2 ⟨j,a⟩)).2 (.inr c)
   ·simp only[e,gq]at c;exact r j k b l a c
 ·constructor
  ·rintro(a|a);·exact⟨i,by simpa using a⟩
   ·obtain⟨j,d⟩:=(g b).1 a;refine⟨j,?_⟩;have:j≠i:=by rintro rfl;exact q b d
    simpa[this]using d
  ·rintro⟨j,d⟩;by_cases h:j=i;·exact .inl (by simpa[h]using d)
   ·exact .inr ((g b).2 ⟨j,by simpa[h]using d⟩)
 ·rintro b (a|a);·exact s b a
  ·exact⟨(m b a).1,λhu=>hu⟩
 ·refine t.weaken ?_;rintro b (hu|hu|hu);·exact hu.elim
  ·exact .inl (.inr hu)
  ·exact .inr hu
def Zv(f:ι->Asn)(i:ι)(A B:Asn):e2 (e2 f i A) i B=e2 f i B:=by
 funext j;unfold e2;split<;>simp_all
@[simp] theorem aMP(f:ι->Asn)(i:ι)(A:Asn):e2 f i A i=A:=by simp[e2]
def eM.back{f:ι->Asn}{i:ι}{A:Asn}(h:Sep E (A::eM (e2 f i emp)::L) w):Sep E (eM (e2 f i A)::L) w:=by
 have:=eM.NH (i:=i) h (by simp);rwa[Zv]at this
end
end Go.Sp
namespace Go.Sp
open Go Go.Vc
def bC(s:Sl)(m:Nat)(vs:List Value):Asn:=
 match s.p with
 |none=>cC (s.n=0/\s.c=0/\vs= []) emp
 |some a=>e8 λspare:List Value=>cC (a.off=0/\a.spot=none/\vs.length=s.n*m/\vs.length+spare.length=s.c*m/\s.n<=s.c) (bE a.block (vs++spare))
section
variable{E:Env}{L:ch}{w:World}{P:Program}{s:Sl}{m:Nat}{vs:List Value}
def bC.none_(h:Sep E L w):Sep E (bC ⟨none,0,0⟩ m []::L) w:=Sep.cC.2 ⟨⟨rfl,rfl,rfl⟩,Sep.emp.2 h⟩
def bC.make{b n c:Nat}{spare:List Value}(h:Sep E (bE b (vs++spare)::L) w)(h1:vs.length=n*m)(a:vs.length+spare.length=c*m)(d:n<=c):Sep E (bC ⟨some ⟨b,0,none⟩,n,c⟩ m vs::L) w:=
 Sep.ex.2 ⟨spare,Sep.cC.2 ⟨⟨rfl,rfl,h1,a,d⟩,h⟩⟩
def bC.length(h:Sep E (bC s m vs::L) w):vs.length=s.n*m:=by
 unfold bC at h;split at h;·obtain⟨⟨h1,_,a⟩,_⟩:=Sep.cC.1 h;rw[h1,a];simp
 ·obtain⟨_,h⟩:=Sep.ex.1 h;exact(Sep.cC.1 h).1.2.2.1
def bC.h2(h:Sep E (bC s m vs::L) w)(i:0<s.n):∃b spare,s.p=some ⟨b,0,none⟩/\vs.length=s.n*m/\vs.length+spare.length=s.c*m/\s.n<=s.c/\Sep E (bE b (vs++spare)::L) w:=by
 unfold bC at h;split at h;·obtain⟨⟨h1,_⟩,_⟩:=Sep.cC.1 h;omega
 ·next a f=>
  obtain⟨spare,h⟩:=Sep.ex.1 h;obtain⟨⟨h1,g,c,d,e⟩,h⟩:=Sep.cC.1 h;refine⟨a.block,spare,?_,c,d,e,h⟩;rw[f];cases a;simp_all
def bC.cell{b:Nat}{spare:List Value}(h:Sep E (bE b (vs++spare)::L) w){j:Nat}(a:j<vs.length):w.cell? ⟨b,j,none⟩=vs[j]? :=by
 rw[h.cell,eE a]
def bC.el{i:Int}{f:Addr->Prop}(q:Nat)(h:Sep E L w)(c:L[q]?=some (bC s m vs))(a:0<=i)(h1:i<s.n)(k:∀b,s.p=some ⟨b,0,none⟩->(∀j,j<m->w.cell? ⟨b,i.toNat*m+j,none⟩=vs[i.toNat*m+j]?)->f ⟨b,i.toNat*m,none⟩):cx s.p s.n i m f:=by
 have h:=h.fr q c;obtain⟨b,spare,hp,e,_,_,h⟩:=bC.h2 h bA;refine⟨⟨b,0,none⟩,hp,⟨a,h1⟩,?_⟩;rw[cj,e5];refine k b hp (λj d=>bC.cell h ?_);have:i.toNat*m+m<=s.n*m:=by
  rw[<- xC];exact kv _ bA
 omega
def bC.st{b o:Nat}{v:Value}{f:bh6}(h:Sep E (bC s m vs::L) w)(hp:s.p=some ⟨b,0,none⟩)(ho:o<vs.length)(k:∀c,Sep E (bC s m (vs.set o v)::L) c->f c):St ⟨b,o,none⟩ v f w:=by
 have j:=bC.length h;have l:0<s.n:=by
  rcases lq s.n with d|d
  ·have q:vs.length=0:=by rw[j,d,n1]
   omega
  ·exact d
 obtain⟨p,spare,a,h1,g,i,h⟩:=bC.h2 h l;rw[hp]at a;simp only[eF,Addr.mk.injEq,and_true]at a;subst a;refine St.i h (by simp;omega) (λc e=>k c ?_);rw[sH _ _ ho]at e;have n:s=⟨some ⟨b,0,none⟩,s.n,s.c⟩:=by cases s;simp_all
 rw[n];exact bC.make (spare:=spare) e (by simpa using h1) (by simpa using g) i
def bC.sT{b o:Nat}{xs:List Value}{f:bh6}(h:Sep E (bC s m vs::L) w)(hp:s.p=some ⟨b,0,none⟩)(hx:0<xs.length)(ho:o+xs.length<=vs.length)(k:∀c,Sep E (bC s m (hV vs o xs)::L) c->f c):jt xs ⟨b,o,none⟩ f w:=by
 have l:=bC.length h;have n:0<s.n:=by
  rcases lq s.n with d|d
  ·have r:vs.length=0:=by rw[l,d,n1]
   omega
  ·exact d
 obtain⟨q,spare,a,h1,i,j,h⟩:=bC.h2 h n;rw[hp]at a;simp only[eF,Addr.mk.injEq,and_true]at a;subst a;refine jt.i h (by simp;omega) (λc g=>k c ?_);have e:hV (vs++spare) o xs=hV vs o xs++spare:=by
  rw[oU _ _ _ (by simp;omega),oU _ _ _ ho,sE bA,TP ho];simp
 rw[e]at g;have p:s=⟨some ⟨b,0,none⟩,s.n,s.c⟩:=by cases s;simp_all
 rw[p];exact bC.make (spare:=spare) g (by simpa using h1) (by simpa using i) j
def tQ(z:Array Value)(n:Nat):(Builtin.zeroCells z n).toList.length=n*z.size:=by simp[Builtin.zeroCells]
def bC.append{x:Value}{k:Nat}{news:List Value}{st H ty:TypeId}{cG:Nat}{zs:List Value}(h:Sep E (bC s m vs::L) w)(B:g9 P st=some (cG,m,zs))(F:zs.length=m)(z:Src P m H x k news w)(M:0<k)(q:(s.n+k)*(cG+1)<=70368744177664){G:Sl->bh6}(g:∀s' d,s'.n=s.n+k->Sep E (bC s' m (vs++news)::L) d->G s' d):
  ∃A:Sl,∃d,Sem.run P (Builtin.append_ #[st,H] ty #[.slice s.p s.n s.c,x]) w=.ok (.slice A.p A.n A.c) d/\G A d:=by
 have i:=z.newsLen;have N:(s.n+k)*cG+(s.n+k)<=70368744177664:=by rw[na,fC]at q;exact q
 have p:∀c,c<s.n+k->Builtin.nextslicecap (s.n+k) c*cG<=281474976710656:=by
  intro c f;have hle:Builtin.nextslicecap (s.n+k) c<=2*(s.n+k)+1000:=by
   unfold Builtin.nextslicecap;split;·omega
   ·split;·omega
    ·have go:∀r c,c<=s.n+k+((s.n+k)+768)/4->Builtin.growBy (s.n+k) r c<=s.n+k+((s.n+k)+768)/4:=by
      intro r;induction r with
      |zero=>intro c f;exact f
      |succ r C=>
       intro c f;unfold Builtin.growBy;split;·exact f
       ·exact C _ bA
     have:=go 4 c bA;omega
  have h1:=kv cG hle;rw[jW,Hj]at h1;have l:cG<=(s.n+k)*cG:=Nat.le_mul_of_pos_left _ bA;by_cases R:s.n+k<=1000
  ·have t:cG<=70368744177664:=by omega
   have u:Builtin.nextslicecap (s.n+k) c<=4*(s.n+k):=by
    unfold Builtin.nextslicecap;split;·omega
    ·split;·omega
     ·have go:∀r c,c<=s.n+k+((s.n+k)+768)/4->Builtin.growBy (s.n+k) r c<=s.n+k+((s.n+k)+768)/4:=by
       intro r;induction r with
       |zero=>intro c f;exact f
       |succ r C=>
        intro c f;unfold Builtin.growBy;split;·exact f
        ·exact C _ bA
      have:=go 4 c bA;omega
   have D:=kv cG u;rw[Hj]at D;omega
  ·have j:1000*cG<=(s.n+k)*cG:=kv _ bA;omega
 unfold bC at h;split at h
 ·next hp=>
  obtain⟨⟨h1,l,t⟩,h⟩:=Sep.cC.1 h;have h:=Sep.emp.1 h;rw[hp,h1,l];refine jj.i h B z M bA (by have:=p 0 bA;rw[h1,e5]at this;exact this) (λI c' d n u=>g _ d (by simp[h1]) ?_);subst t;refine bC.make (spare:=(Builtin.zeroCells zs.toArray (c'-k)).toList) u (by simpa using i) ?_ n;rw[tQ];simp only[lR,i,G2,F,<- jW];congr 1;omega
 ·next a K=>
  obtain⟨spare,h⟩:=Sep.ex.1 h;obtain⟨⟨h1,l,t,u,D⟩,h⟩:=Sep.cC.1 h;obtain⟨b,o,sp⟩:=a;simp only at h1 l;subst h1 l;rw[K];have O:((s.n+k)*m)=s.n*m+k*m:=jW _ _ _;by_cases y:s.n+k<=s.c
  ·have hle:(s.n+k)*m<=s.c*m:=kv _ y;refine append.i h B z (by simp;omega) (λ_=>by simp;omega) bA (λv=>bA) (λ_ d j=>g _ d rfl ?_) (λQ=>bA)
   ·have e:hV (vs++spare) (0+s.n*m) news=vs++news++spare.drop news.length:=by
     rw[oU _ _ _ (by simp;omega),sE bA,hE bA,T8];rw[List.drop_eq_nil_of_le bA];simp only[lR];congr 2;omega
    rw[e]at j;refine bC.make (spare:=spare.drop news.length) j (by simp;omega) (by simp;omega) y
  ·refine append.i h B z (by simp;omega) (λv=>absurd v y) bA (p _) (λv=>absurd v y) (λ_ I c' d n j=>g _ d rfl ?_);have e:((vs++spare).drop 0).take (s.n*m)=vs:=by
    rw[sM,sE bA,hE bA]
   rw[e]at j;have J:=(j.fr 1 rfl).tail;refine bC.make (spare:=(Builtin.zeroCells zs.toArray (c'-(s.n+k))).toList) J (by simp;omega) ?_ n;rw[tQ];simp only[da,t,i,G2,F,<- jW];congr 1;omega
def Src.bE{b n c i:Nat}{C:List Value}{a:TypeId}{cG:Nat}{zs:List Value}(h:Sep E L w)(d:L[i]?=Option.some (Sp.bE b C))(g:g9 P a=Option.some (cG,m,zs))(f:C.length=n*m)(h1:∀u∈C,u.oneCell'=true):
  Src P m a (.slice (Option.some ⟨b,0,none⟩) n c) n C w:=by
 obtain⟨e,l,z,k,_⟩:=pQ g;exact Src.ofSlice w k ⟨b,0,none⟩ n c C f (λj u hu=>by rw[cj,h.cellAt i d,e5];exact hu) h1
end
end Go.Sp
namespace Go.Sp
open Go Go.Vc
def bQ{α:Type}(f:α->List Value)(l:List α):List Value:=(l.map f).flatten
section
variable{α:Type}{f:α->List Value}{m:Nat}(hf:∀a,(f a).length=m)
include hf
def oq(l:List α):(bQ f l).length=l.length*m:=by
 induction l with
 |nil=>simp[bQ]
 |cons a l b=>
  have:bQ f (a::l)=f a++bQ f l:=rfl;rw[this,da,hf,b,hS,jW,Nat.one_mul,rf]
def Zw(l:List α)(i j:Nat)(c:j<m):(bQ f l)[i*m+j]?=l[i]?.bind λa=>(f a)[j]? :=by
 induction l generalizing i with
 |nil=>simp[bQ]
 |cons a l b=>
  have:bQ f (a::l)=f a++bQ f l:=rfl;rw[this];cases i with
  |zero=>rw[eE (by rw[hf];omega)];simp
  |succ i=>
   rw[fo (by rw[hf,jW];omega),hf];have e:(i+1)*m+j-m=i*m+j:=by rw[jW];omega
   rw[e,b i];simp
def tR{l:List α}{i:Nat}{a:α}(h:l[i]?=some a)(j:Nat)(b:j<m):(bQ f l)[i*m+j]?=(f a)[j]? :=by
 rw[Zw hf l i j b,h];rfl
def Eb{l:List α}{i j:Nat}{a a':α}{v:Value}(h:l[i]?=some a)(k:j<m)(d:f a'=(f a).set j v):(bQ f l).set (i*m+j) v=bQ f (l.set i a'):=by
 induction l generalizing i with
 |nil=>simp at h
 |cons b l g=>
  have c:bQ f (b::l)=f b++bQ f l:=rfl;rw[c];cases i with
  |zero=>
   simp only[lo,eF]at h;subst h;rw[sH _ _ (by rw[hf];omega),n1,e5,<- d];rfl
  |succ i=>
   rw[ik _ _ (by rw[hf,jW];omega),hf];have e:(i+1)*m+j-m=i*m+j:=by rw[jW];omega
   rw[e,g (by simpa using h)];rfl
def Zx{l:List α}{i j:Nat}{a a':α}{xs:List Value}(h:l[i]?=some a)(r:j+xs.length<=m)(d:f a'=hV (f a) j xs):hV (bQ f l) (i*m+j) xs=bQ f (l.set i a'):=by
 induction l generalizing i with
 |nil=>simp at h
 |cons b l p=>
  have n:bQ f (b::l)=f b++bQ f l:=rfl;have hlen:=oq hf (b::l);have e:i<(b::l).length:=by
   rcases gS i (b::l).length with h' | h';·exact h'
   ·simp[fH h']at h
  have hle:i*m+m<=(b::l).length*m:=by rw[<- xC];exact kv _ e
  rw[oU _ _ _ (by rw[hlen];omega),n];cases i with
  |zero=>
   simp only[lo,eF]at h;subst h;rw[oU _ _ _ (by rw[hf];omega)]at d;have c:bQ f ((b::l).set 0 a')=f a'++bQ f l:=rfl;rw[c,d,n1,e5,sE (by rw[hf];omega),TP (by rw[hf];omega)];simp
  |succ i=>
   have k:=oq hf l;have g:i<l.length:=by simpa using e
   have o:i*m+m<=l.length*m:=by rw[<- xC];exact kv _ g
   have:=p (by simpa using h);rw[oU _ _ _ (by rw[k];omega)]at this;have c:bQ f ((b::l).set (i+1) a')=f b++bQ f (l.set i a'):=rfl;rw[c,<- this,List.take_append,T8];have q:(i+1)*m+j-(f b).length=i*m+j:=by rw[hf,jW];omega
   have q2:(i+1)*m+j+xs.length-(f b).length=i*m+j+xs.length:=by rw[hf,jW];omega
   rw[q,q2,hE (by rw[hf,jW];omega),jJ (by rw[hf,jW];omega)];simp
omit hf in
def mX(l l':List α):bQ f (l++l')=bQ f l++bQ f l':=by simp[bQ]
omit hf in
def o4(a:α):bQ f [a]=f a:=by simp[bQ]
end
end Go.Sp
namespace Go.Sp
open Go Go.Vc Go.WideElems Go.WideShapes Go.RowKit
structure KeysOf(f:Int->Option Value)(l:bU):Prop where
 cX:l.Pairwise (· < ·)
 mem:∀k,k∈l↔(f k).isSome=true
def bD(l:bU):List Value:=l.map (Value.int .i64)
@[simp] theorem Zy(l:bU):(bD l).length=l.length:=by simp[bD]
@[simp] theorem y9(l:bU)(i:Nat):(bD l)[i]?=l[i]?.map (Value.int .i64):=by simp[bD]
def p0:∀(N:Nat) (l:bU),l.Nodup->(∀x∈l,0<=x/\x<N)->l.length<=N
 |0,l,_,h=>by
  cases l with
  |nil=>simp
  |cons x l=>have:=h x (by simp);omega
 |N+1,l,b,h=>by
  have h1:=p0 N (l.filter (· ≠(N:Int))) (b.filter _) (λx hx=>by
   simp only[fO,gj]at hx;have:=h x hx.1;omega)
  by_cases hm:(N:Int)∈l
  ·have d:(l.filter (· ≠(N:Int))).length=l.length-1:=by
    have:l.filter (· ≠(N:Int))=l.erase (N:Int):=by rw[b.erase_eq_filter];congr 1;funext x;simp[bne,decide_not];rfl
    rw[this,List.length_erase_of_mem hm]
   omega
  ·have:l.filter (· ≠(N:Int))=l:=by
    rw[AX];intro a c;simp only[ne_eq,gj];rintro rfl;exact hm c
   rw[this]at h1;omega
section
variable{E:Env}{L:ch}{w:World}{P:Program}{f:Int->Option Value}{b:Nat}
def tS:Value->Option (DataW Unit×List MemPlace):=λ_=>some (.lit (.bool true),[])
def cB.owns{i:Nat}{kt:TypeId}(h:Sep E L w)(C:L[i]?=some (cB b (Value.int .i64) f))(F:P.underlying kt=some (.int .i64)){N:Nat}(q:∀k v,f k=some v->0<=k/\k<N)(r:N<=17592186044416):
  ∃D:DataW Unit,w.ownsMap P kt tS b N D/\Maps.size D<=N/\∀j:bU,j.Perm (intKeys D)->j.Nodup/\∀k,k∈j↔(f k).isSome=true:=by
 obtain⟨es,ck,s,M⟩:=cB.at_ h C;have o:∀e∈es,∃k:Int,e.key=.int .i64 k/\f k=some e.val/\(Lit.int .i64 k).wf=true:=by
  intro e he;obtain⟨k,h1,g⟩:=M.key e he;refine⟨k,h1,g,?_⟩;have:=q k _ g;simp only[Lit.wf,IntKind.min,IntKind.max,IntKind.signed,IntKind.bits,dG,gj];constructor<;>simp<;>omega
 let c:MapEntry->Int:=λe=>match e.key with | .int _ n=>n|_=>0
 have d:∀e∈es,e.key=.int .i64 (c e)/\f (c e)=some e.val/\(Lit.int .i64 (c e)).wf=true:=by
  intro e he;obtain⟨k,h1,g,A⟩:=o e he;have:c e=k:=by simp only[c,h1]
  rw[this];exact⟨h1,g,A⟩
 have l:(es.map c).Nodup:=by
  rw[nT,jK];refine GK ?_ M.one;intro a b B r u he;exact u (by rw[(d a B).1,(d b r).1,he])
 have hlen:es.length<=N:=by
  have:=p0 N (es.map c) l (λx hx=>by
   obtain⟨e,he,rfl⟩:=e4.1 hx;exact q _ _ (d e he).2.1)
  simpa using this
 have m:∀e∈es,rd P kt tS e=some (.int .i64 (c e),.lit (.bool true)):=by
  intro e he;have t:=d e he;unfold rd;rw[t.1,Maps.keyOf_int_mk F t.2.2];rfl
 have y:es.map (rg P kt tS)=es.map λe=>(Lit.int .i64 (c e),(DataW.lit (.bool true):DataW Unit)):=by
  apply GU;intro e he;unfold rg;rw[m e he];rfl
 refine⟨.map ((es.map (rg P kt tS)).foldr DataW.insert []),⟨es.toArray,ck,s,⟨?_,?_,?_⟩,by simpa using hlen,by simp⟩,?_,?_⟩;·simp[maxLen];omega
 ·refine⟨by simpa using M.born,?_,?_⟩;·simp only[nT,jK];exact M.kT
  ·simp only[nT,jK];exact M.one
 ·intro x hx;exact⟨_,m x (by simpa using hx)⟩
 ·show((es.map (rg P kt tS)).foldr DataW.insert []).length<=N;rw[(sorted_perm _).length_eq];simpa using hlen
 ·intro j z;have hp:j.Perm (es.map c):=by
   refine z.trans ?_;show(((es.map (rg P kt tS)).foldr DataW.insert []).map λp=>intOf p.1).Perm _;refine((sorted_perm _).map _).trans ?_;rw[y,rh];exact List.Perm.of_eq (GU (λe _=>rfl))
  refine⟨hp.nodup_iff.2 l,λk=>?_⟩;rw[hp.mem_iff,e4];constructor
  ·rintro⟨e,he,rfl⟩;rw[(d e he).2.1];rfl
  ·intro G;obtain⟨v,H⟩:=kq.1 G;obtain⟨e,he,h1,g⟩:=M.has k v H;refine⟨e,he,?_⟩;have:=(d e he).1;rw[h1]at this;simpa using this.symm
def NI{d:bU}(f:d.Nodup):(d.mergeSort λx y=>decide (x<=y)).Pairwise (· < ·):=by
 have h1:=List.pairwise_mergeSort (le:=λx y:Int=>decide (x<=y)) (by simpa using λa b c=>Int.le_trans) (by simpa using λa b=>Int.le_total a b) d;have e:(d.mergeSort λx y=>decide (x<=y)).Nodup:=(AY _ _).nodup_iff.2 f;rw[nT]at e;exact(h1.and e).imp (λ{a b} h=>by have:=h.1;simp at this;have:=h.2;omega)
def Ec{W:World}{v:Value}{l:bU}{e:TypeId}(h:Sep E L w)(hw:W.ownsRow w.heap.size e 1 v l.length (l.map encZ))(a:RowKit.Below w.heap.size w W):
  ∃s:Sl,v=.slice s.p s.n s.c/\s.n=l.length/\Sep E (bC s 1 (bD l)::L) W:=by
 obtain⟨q,i|⟨g,cap,cur,o,k,b,hle,m,f,c⟩⟩:=hw
 ·obtain⟨rfl,h1⟩:=i;have:l= []:=uG h1;subst this;refine⟨⟨none,0,0⟩,rfl,rfl,bC.none_ (h.grow ⟨a.os,a.tape,a.output,a.size,a.block⟩)⟩
 ·refine⟨⟨some ⟨g,0,none⟩,l.length,cap⟩,o,rfl,?_⟩;have d:cur.toList=bD l++cur.toList.drop l.length:=by
   have:bD l=cur.toList.take l.length:=by rw[fC]at c;exact c.symm
   rw[this,fA]
  have n:cur.toList.length=cap:=by simpa using f
  have j:Sep E (bE g (bD l++cur.toList.drop l.length)::L) W:=by
   refine h.new ⟨a.os,a.tape,a.output,a.size,a.block⟩ (F':=λx=>x=g) ⟨⟨e,(0,0),?_,λ_ _ p=>bA⟩,λ_=>lS⟩ (λx hx=>?_);·rw[b,<- d]
   ·subst hx;exact⟨k,(pv.1 b).1⟩
  exact bC.make j (by simp) (by simp;omega) hle
end
end Go.Sp
namespace Go.Sp
open Go Go.Vc
def bT{b:Bool}{A B:Prop}(h:b=true)(k:A):bif b then A else B:=by subst h;exact k
def bF{b:Bool}{A B:Prop}(h:b=false)(k:B):bif b then A else B:=by subst h;exact k
def cL{n i:Int}{A B:Prop}(h1:n<i->A)(a:i<=n->B):bif decide (n<i)then A else B:=
 cw (λh=>h1 (by simpa using h)) (λh=>a (by simpa using h))
def hN{n i:Int}{A B:Prop}(h1:n<=i->A)(a:i<n->B):bif decide (n<=i)then A else B:=
 cw (λh=>h1 (by simpa using h)) (λh=>a (by simpa using h))
def hk{n i:Int}{A B:Prop}(h1:i<=n->A)(a:n<i->B):bif decide (n≥i)then A else B:=
 cw (λh=>h1 (by simpa using h)) (λh=>a (by simpa using h))
def eW{n i:Int}{A B:Prop}(h1:i<n->A)(a:n<=i->B):bif decide (n>i)then A else B:=
 cw (λh=>h1 (by simpa using h)) (λh=>a (by simpa using h))
def gV{n i:Int}{A B:Prop}(h1:n≠i->A)(a:n=i->B):bif(n !=i)then A else B:=
 cw (λh=>h1 (by simpa using h)) (λh=>a (by simpa using h))
def eD{n i:Int}{A B:Prop}(h1:n=i->A)(a:n≠i->B):bif(n==i)then A else B:=
 cw (λh=>h1 (by simpa using h)) (λh=>a (by simpa using h))
section
variable{E:Env}{L:ch}{w:World}{P:Program}
def ld{α:Type}{mk:α->Value}{F:α->Prop}{a:Addr}{b o:Nat}{c:List Value}{x:α}(h:Sep E L w)(i:Nat)(d:a=⟨b,o,none⟩)(e:L[i]?=some (bE b c))(f:c[o]?=some (mk x))(k:F x):
  ∃x,w.cell? a=some (mk x)/\F x:=⟨x,by rw[d,h.cellAt i e];exact f,k⟩
def eh(f:bh6){b:Nat}{C vs:List Value}(h:Sep E (bE b C::L) w)(c:C.length=vs.length)(k:∀a,Sep E (bE b vs::L) a->f a):jt vs ⟨b,0,none⟩ f w:=by
 refine jt.i h bA (λa h1=>k a ?_);rw[oU _ _ _ bA]at h1;simpa[<- c]using h1
def kY{s:Sl}{l:bU}{i:Int}{f:Addr->Prop}(q:Nat)(h:Sep E L w)(g:L[q]?=some (bC s 1 (bD l)))(j:s.n=l.length)(d:0<=i)(h1:i<l.length)(k:∀a,w.cell? a=some (.int .i64 (l.getD i.toNat 0))->f a):cx s.p s.n i 1 f:=by
 refine bC.el q h g d bA (λb _ e=>k _ ?_);have:=e 0 bA;rw[lu]at this;rw[this,fC];have c:i.toNat<l.length:=by omega
 simp[c,List.getD,bD]
def rT{s:Sl}{l:bU}{i:Int}{f:Addr->Prop}(q:Nat)(h:Sep E L w)(v:L[q]?=some (bC s 1 (bD l)))(u:s.n=l.length)(p:0<=i)(h1:i<l.length)(k:∀a,(∀ {L':ch} {w':World} (g:Nat),Sep E L' w'->L'[g]?=some (bC s 1 (bD l))->w'.cell? a=some (.int .i64 (l.getD i.toNat 0)))->f a):cx s.p s.n i 1 f:=by
 refine bC.el q h v p bA (λb r _=>k _ (λ{L' w'} g h' n=>?_));have d:=h'.fr g n;obtain⟨o,spare,c,t,_,_,d⟩:=bC.h2 d bA;have e:o=b:=by rw[r]at c;simpa using c.symm
 subst e;have:=bC.cell d (j:=i.toNat) (by rw[t,u];omega);rw[fC,this];have m:i.toNat<l.length:=by omega
 simp[m,List.getD,bD]
end
end Go.Sp
namespace Go.Sp
open Go Go.Vc
section
variable{E:Env}{L:ch}{w:World}{P:Program}{s:Sl}{m:Nat}{vs:List Value}
def Zz{st l ty:TypeId}{cG:Nat}{zs:List Value}{x:Value}(b:Src P m l x 0 [] w)(r:g9 P st=some (cG,m,zs))(d:s.n<=s.c){G:Sl->bh6}(g:G s w):
  ∃a:Sl,∃k,Sem.run P (Builtin.append_ #[st,l] ty #[.slice s.p s.n s.c,x]) w=.ok (.slice a.p a.n a.c) k/\G a k:=by
 obtain⟨e,i,z,t,o,y,u,j,v⟩:=pQ r;subst j;refine⟨s,w,?_,g⟩;obtain⟨p,n,c⟩:=s;have q:=b.len;have f:=b.cells;simp only at d;rcases b.kind with⟨e',h⟩|h<;>cases p<;>simp[Builtin.append_,run_underlying t,run_underlying h,sizeOf,typeInfo,o,q,d,f,storeCells]
def bC.cap(h:Sep E (bC s m vs::L) w):s.n<=s.c:=by
 unfold bC at h;split at h;·obtain⟨⟨h1,a,_⟩,_⟩:=Sep.cC.1 h;omega
 ·obtain⟨_,h⟩:=Sep.ex.1 h;exact(Sep.cC.1 h).1.2.2.2.2
def bC.app{x:Value}{k:Nat}{news:List Value}{st i ty:TypeId}{cG:Nat}{zs:List Value}(h:Sep E (bC s m vs::L) w)(f:g9 P st=some (cG,m,zs))(l:zs.length=m)(e:Src P m i x k news w)(d:(s.n+k)*(cG+1)<=70368744177664){G:Sl->bh6}(g:∀s' a,s'.n=s.n+k->Sep E (bC s' m (vs++news)::L) a->G s' a):
  ∃b:Sl,∃a,Sem.run P (Builtin.append_ #[st,i] ty #[.slice s.p s.n s.c,x]) w=.ok (.slice b.p b.n b.c) a/\G b a:=by
 rcases lq k with c|c
 ·subst c;have j:news= []:=by
   have:=e.newsLen;rw[n1]at this;exact AW.1 this
  subst j;exact Zz e f (bC.cap h) (g s w rfl (by rw[hF];exact h))
 ·exact bC.append h f l e c d g
def Src.sub{q l n' c':Nat}{n:TypeId}{cG:Nat}{zs:List Value}(h:Sep E L w)(t:L[q]?=some (bC s m vs))(hx:g9 P n=some (cG,m,zs))(i:l+n'<=s.n)(h1:∀u∈vs,u.oneCell'=true):
  Src P m n (.slice (gb s.p l s.c m) n' c') n' ((vs.drop (l*m)).take (n'*m)) w:=by
 obtain⟨e,B,z,k,_⟩:=pQ hx;have h:=h.fr q t;have hlen:=bC.length h;have d:((vs.drop (l*m)).take (n'*m)).length=n'*m:=by
  have hle:(l+n')*m<=s.n*m:=kv _ i;rw[jW]at hle;simp only[g7,nY];omega
 have f:∀u∈(vs.drop (l*m)).take (n'*m),u.oneCell'=true:=λu hu=>h1 u (uL (mx hu));rcases lq n' with g|g
 ·subst g;have o:(vs.drop (l*m)).take (0*m)= []:=by rw[n1];rfl
  rw[o];refine⟨.inl ⟨e,k⟩,λw'=>by simp[Builtin.lenOf],?_,?_,by simp,λu hu=>by cases hu⟩
  ·cases gb s.p l s.c m with
   |none=>exact run_firstCells_none w m 0 0 c'
   |some a=>exact run_firstCells_some w m 0 a 0 c' [] (by simp) (λj v c=>by simp at c)
  ·cases gb s.p l s.c m with
   |none=>exact run_firstCells_none w.drew m 0 0 c'
   |some a=>exact run_firstCells_some w.drew m 0 a 0 c' [] (by simp) (λj v c=>by simp at c)
 ·have r:=bC.cap h;obtain⟨b,spare,hp,x,y,A,h⟩:=bC.h2 h bA;have p:gb s.p l s.c m=some ⟨b,l*m,none⟩:=by
   unfold gb;rw[cM,hp,jh,cj,e5]
  rw[p];refine Src.ofSlice w k ⟨b,l*m,none⟩ n' c' _ d (λj u hu=>?_) f;have c:j<n'*m:=by
   have:=(cT.1 hu).1;rwa[d]at this
  have hle:(l+n')*m<=s.n*m:=kv _ i;rw[jW]at hle;rw[cj,bC.cell h (by rw[hlen];omega)];rw[pz,bM c,py]at hu;exact hu
def kZ{α:Type}{f:α->List Value}{l:List α}(hf:∀a,(f a).length=m){F:Addr->Prop}{i:Int}{k:Nat}{a:α}(q:Nat)(h:Sep E L w)(p:L[q]?=some (bC s m (bQ f l)))(x:s.n=l.length)(u:i=k)(d:l[k]?=some a)(r:∀b,s.p=some ⟨b,0,none⟩->(∀j v,(f a)[j]?=some v->w.cell? ⟨b,k*m+j,none⟩=some v)->F ⟨b,k*m,none⟩):cx s.p s.n i m F:=by
 have t:=(cT.1 d).1;have g:i.toNat=k:=by omega
 refine bC.el q h p bA bA (λb o e=>?_);rw[g]at e ⊢;refine r b o (λj v n=>?_);have c:j<m:=by have:=(cT.1 n).1;rwa[hf]at this
 rw[e j c,tR hf d j c];exact n
def tT{α:Type}{f:α->List Value}{l:List α}(hf:∀a,(f a).length=m){F:bh6}{k j b:Nat}{a a':α}{v:Value}(h:Sep E (bC s m (bQ f l)::L) w)(i:s.p=some ⟨b,0,none⟩)(d:l[k]?=some a)(n:j<m)(e:f a'=(f a).set j v)(o:∀c,Sep E (bC s m (bQ f (l.set k a'))::L) c->F c):St ⟨b,k*m+j,none⟩ v F w:=by
 have g:=(cT.1 d).1;refine bC.st h i ?_ (λc h1=>o c ?_)
 ·rw[oq hf];have:(k+1)*m<=l.length*m:=kv _ g;rw[xC]at this;omega
 ·rw[Eb hf d n e]at h1;exact h1
def Ed{α:Type}{f:α->List Value}(hf:∀a,(f a).length=m)(l:List α)(k:Nat):(bQ f l).take (k*m)=bQ f (l.take k):=by
 by_cases b:k<=l.length
 ·have e:bQ f l=bQ f (l.take k)++bQ f (l.drop k):=by rw[<- mX,fA]
  have c:(bQ f (l.take k)).length=k*m:=by rw[oq hf];simp[pE b]
  rw[e,sE bA,hE bA]
 ·rw[hE (by rw[oq hf];exact kv _ bA),hE bA]
def ZA{α:Type}{f:α->List Value}(hf:∀a,(f a).length=m)(l:List α)(k:Nat):(bQ f l).drop (k*m)=bQ f (l.drop k):=by
 by_cases b:k<=l.length
 ·have e:bQ f l=bQ f (l.take k)++bQ f (l.drop k):=by rw[<- mX,fA]
  have c:(bQ f (l.take k)).length=k*m:=by rw[oq hf];simp[pE b]
  rw[e,TP bA,jJ bA,lR]
 ·rw[jJ (by rw[oq hf];exact kv _ bA),jJ bA];rfl
end
end Go.Sp
namespace Go.Mp
open Go Go.Vc Go.Sp Go.Proofs Go.Kc
variable{E:Env}{L:ch}{w W:World}
def tU{k:Nat}(h:k<64):2^k<18446744073709551616:=GP (a:=2) (n:=64) bO h
def zc{x k:Nat}(h:x<18446744073709551616)(a:64<=k:=by omega):x.testBit k=false:=Nat.testBit_lt_two_pow (mz h (uJ (n:=2) (i:=64) bO a))
def p1(o:Obj):Prop:=∃(c:Array Value) (t:TypeId) (z:Nat×Nat),o=.cells c t z/\∀j,j<64->c[j]?=some (.int .u8 (Lib.deBruijn64tab.getD j 0:Nat))
def p1.cell{w:World}{o:Obj}(h:p1 o)(a:w.heap[2]?=some o){j:Nat}(d:j<64):w.cell? ⟨2,j,none⟩=some (.int .u8 (Lib.deBruijn64tab.getD j 0:Nat)):=by
 obtain⟨c,t,z,rfl,b⟩:=h;unfold World.cell?;dsimp only;rw[a];simpa using b j d
def gg(T:List Bool)(j:Nat):Nat:=wd ((T.drop (64*j)).take 64)
def nW(n:Nat):Nat:=(n+63)/64
def mb(T:List Bool):List Value:=(List.range (nW T.length)).map λj=>Value.int .u64 (gg T j:Nat)
def tV(T:List Bool):(mb T).length=nW T.length:=by simp[mb]
def tW{T:List Bool}{j:Nat}(h:j<nW T.length):(mb T)[j]?=some (.int .u64 (gg T j:Nat)):=by simp[mb,h]
def o5(T:List Bool)(j:Nat):gg T j<18446744073709551616:=Zp (by simp;omega)
def tX(T:List Bool)(j k:Nat)(a:k<64):(gg T j).testBit k=T.getD (64*j+k) false:=by
 unfold gg;rw[y7,dK,dK,pz,bM a,py]
def ZB{T:List Bool}{i:Nat}(h:i<T.length):(mb T).set (i/64) (.int .u64 ((gg T (i/64) ^^^ 2^(i%64):Nat)))=mb (T.set i (!T.getD i false)):=by
 apply g6;intro j;have g:(T.set i (!T.getD i false)).length=T.length:=dA;by_cases c:j<nW T.length
 ·have f:j<nW (T.set i (!T.getD i false)).length:=by rw[g];exact c
  rw[tW f];by_cases e:i/64=j
  ·subst e;rw[iM (by rw[tV];exact c)];congr 3;apply uK;intro k;by_cases b:k<64
   ·rw[Nat.testBit_xor,tX _ _ _ b,tX _ _ _ b,sI];by_cases d:i%64=k
    ·have a:64*(i/64)+k=i:=by omega
     rw[dh d,a,dK (l:=T.set i _),iM h];simp
    ·have a:i≠64*(i/64)+k:=by omega
     rw[c4 d,dK (l:=T.set i _),h4 a,<- dK,Bool.xor_false]
   ·rw[zc (GY (n:=64) (o5 _ _) (tU (kx _ bO))),zc (o5 _ _)]
  ·rw[h4 e,tW c];congr 3;apply uK;intro k;by_cases b:k<64
   ·rw[tX _ _ _ b,tX _ _ _ b];have a:i≠64*j+k:=by omega
    rw[dK (l:=T.set i _),h4 a,<- dK]
   ·rw[zc (o5 _ _),zc (o5 _ _)]
 ·rw[fH (by rw[dA,tV];omega),fH (by rw[tV,g];omega)]
def iK(b:Nat)(T:List Bool):Asn:=e8 λs:Sl=>cC (s.n=nW T.length/\T.length<=65536) (star (bE b [Iv (T.length:Nat),Sv s]) (bC s 1 (mb T)))
def iK.get{b:Nat}{T:List Bool}(h:Sep E (iK b T::L) w):∃s:Sl,s.n=nW T.length/\T.length<=65536/\Sep E (bE b [Iv (T.length:Nat),Sv s]::bC s 1 (mb T)::L) w:=by
 obtain⟨s,h⟩:=Sep.ex.1 h;obtain⟨a,h⟩:=Sep.cC.1 h;exact⟨s,a.1,a.2,Sep.star.1 h⟩
def iK.mk{b:Nat}{T:List Bool}{s:Sl}(c:s.n=nW T.length)(a:T.length<=65536)(h:Sep E (bE b [Iv (T.length:Nat),Sv s]::bC s 1 (mb T)::L) w):Sep E (iK b T::L) w:=
 Sep.ex.2 ⟨s,Sep.cC.2 ⟨⟨c,a⟩,Sep.star.2 h⟩⟩
def ZC{n:Int}:min1 (dy n 0) 65536=((min (max n 0).toNat 65536:Nat):Int):=by
 unfold min1 dy;split<;>split<;>omega
def ZD(k:Nat):wd (List.replicate k false)=0:=by
 induction k with
 |zero=>rfl
 |succ k a=>rw[nV];unfold wd;rw[a];rfl
def ZE(n:Int)(h:Sep E L w):Calls P Jl #[Iv n] w (bW λv w'=>∃b,v=Pb b/\Sep E (iK b (List.replicate (min (max n 0).toNat 65536) false)::L) w'):=by
 apply WW;unfold Lp;rw[ZC];generalize hm:min (max n 0).toNat 65536=m;have c:m<=65536:=by omega
 have e:(i64.wrap ((i64.wrap ((m:Int)+64))-1)).fdiv (2^(min (6:Int).toNat 64))=((nW m:Nat):Int):=by
  rw[cH (n:=(m:Int)+64) bA bA,cH bA bA,show(m:Int)+64-1=((m+63:Nat):Int) by omega];exact sh _ 6
 rw[e];have g:nW m<=2000:=by unfold nW;omega
 refine⟨bO,makeSlice.i h (by kernel_rfl:g9 P V7=some (8,1,[.int .u64 0])) bA (e7 _) bA bA (λb k h1=>?_)⟩;refine Al.i h1 (λp w2 f=>⟨p,rfl,?_⟩);refine iK.mk (s:=⟨some ⟨b,0,none⟩,nW m,nW m⟩) (by rw[kJ]) (by rw[kJ];exact c) ?_;rw[kJ];have a:=f.swap;refine Sep.swap (bC.make (spare:=[]) (vs:=mb (List.replicate m false)) ?_ (by rw[tV,kJ,fC]) (by rw[tV,kJ];simp) (dN _));have d:((List.range (((nW m:Nat):Int).toNat*1)).map λi=>(([Value.int .u64 0]:List Value).toArray)[i%([Value.int .u64 0]:List Value).length]!)=mb (List.replicate m false)++[]:=by
  rw[hF];unfold mb;rw[kJ,dk,fC];apply GU;intro j _;have:gg (List.replicate m false) j=0:=by
   unfold gg;rw[List.drop_replicate,List.take_replicate];exact ZD _
  rw[this];simp[Nat.mod_one]
 rw[d]at a;exact a
variable{b:Nat}{T:List Bool}
def NJ{q:Nat}(h:Sep E L w)(a:L[q]?=some (iK b T)):Calls P Cw #[Pb b] w (bW λv w'=>v=Iv (T.length:Nat)/\w'=w):=by
 apply Wr;unfold K7 qL;obtain⟨s,_,_,h1⟩:=iK.get (h.fr q a);exact⟨_,rfl,_,h1.cell 0,rfl,rfl⟩
def Ee(i:Nat):bV .i64 (i:Int) 63=((i%64:Nat):Int):=by
 have h1:(BitVec.ofInt 64 (i:Int) &&& BitVec.ofInt 64 63).toNat=i%64:=by
  rw[uR,q6,q8];have:(BitVec.ofInt 64 63).toNat=63:=by decide
  rw[this];have a:=q5 (i%2^64) 6;rw[show(2:Nat)^6-1=63 by decide]at a;rw[a];omega
 show i64.wrap ((BitVec.ofInt 64 (i:Int) &&& BitVec.ofInt 64 63).toNat:Int)=_;rw[h1];exact cH bA bA
def vP(i:Nat)(w:World):Calls P DM #[Iv (i:Nat)] w (bW λv w'=>v=.tuple #[Iv ((i/64:Nat):Int),.int .u64 ((2^(i%64):Nat):Int)]/\w'=w):=by
 apply Y9;unfold Np;have a:i%64<64:=kx _ bO;have hp:2^(i%64)<18446744073709551616:=tU a;rw[Ee,dj,show((i:Nat):Int).fdiv (2^(min (6:Int).toNat 64))=((i/64:Nat):Int)from sh i 6];refine⟨bO,bA,?_,rfl⟩;have e:(min ((i%64:Nat):Int).toNat 64)=i%64:=by rw[dk];omega
 rw[e,Int.one_mul];have b:((2:Int)^(i%64))=((2^(i%64):Nat):Int):=by push_cast;rfl
 rw[b,dj hp]
def ZF{q:Nat}(h:Sep E L w)(k:L[q]?=some (iK b T))(i:Int):Calls P Kn #[Pb b,Iv i] w (bW λv w'=>v=.bool (decide (0<=i)&&T.getD i.toNat false)/\w'=w):=by
 apply Y8;unfold Nn qK qL qW qg zC;obtain⟨s,r,p,h1⟩:=iK.get (h.fr q k);refine⟨λw'=>w'=w/\0<=i/\i<T.length,cL (λd=>⟨by rw[c4 bA];rfl,rfl⟩) (λd=>⟨_,rfl,_,h1.cell 0,hk (λc=>⟨?_,rfl⟩) (λc=>⟨rfl,d,c⟩)⟩),?_⟩;·rw[dK,fH bA];simp
 ·rintro _ w2 ⟨rfl,f,m⟩;obtain⟨n,rfl⟩:∃n:Nat,i=n:=⟨i.toNat,bA⟩
  refine use (vP n w2) ?_;rintro _ t ⟨rfl,rfl⟩;have j:n/64<nW T.length:=by unfold nW;omega
  refine⟨_,_,rfl,_,rfl,s,h1.cell 1,bC.el 1 h1 rfl bA bA (λo l g=>⟨((gg T (n/64):Nat):Int),?_,?_,rfl⟩)⟩
  ·have:=g 0 bO;rw[lu]at this;rw[this,fC,dk,tW j]
  ·rw[nC (o5 _ _) (tU (kx _ bO))];have e:gg T (n/64) &&& 2^(n%64)=if T.getD n false then 2^(n%64)else 0:=by
    have a:=tX T (n/64) (n%64) (kx _ bO);rw[show 64*(n/64)+n%64=n by omega]at a;unfold gg at a ⊢;rw[Zq,<- y7,a]
   rw[e,dh f,dk];have hp:(2^(n%64):Nat)≠0:=Nat.pos_iff_ne_zero.1 (A5 _);cases T.getD n false with
   |true=>simp only[fP,lr];congr 1;rw[bne_iff_ne];omega
   |false=>simp
def iX(T:List Bool)(i:Int)(on:Bool):List Bool×Bool:=
 if i<0\/(T.length:Int)<=i\/T.getD i.toNat false=on then(T,false)else(T.set i.toNat on,true)
def NK(h:Sep E (iK b T::L) w)(i:Int)(on:Bool):Calls P DF #[Pb b,Iv i,.bool on] w (bW λv w'=>v=.bool (iX T i on).2/\Sep E (iK b (iX T i on).1::L) w'):=by
 apply YN;unfold M5 qF qK qL qW qg zC;dsimp only;obtain⟨s,u,t,h1⟩:=iK.get h;have bad:(i<0\/(T.length:Int)<=i\/T.getD i.toNat false=on)->Value.bool false=.bool (iX T i on).2/\Sep E (iK b (iX T i on).1::L) w:=by
  intro a;unfold iX;rw[bM a];exact⟨rfl,h⟩
 refine⟨λw'=>w'=w/\∃n:Nat,i=n/\n<T.length/\on= !T.getD n false,cL (λa=>bad (.inl a)) (λa=>⟨_,rfl,_,h1.cell 0,hk (λo=>bad (.inr (.inl o))) (λo=>?_)⟩),?_⟩
 ·refine use (ZF (q:=0) h rfl i) ?_;rintro _ f ⟨rfl,rfl⟩;rw[dh a,lr];refine⟨_,rfl,?_⟩;cases he:(T.getD i.toNat false==on)with
  |true=>exact bad (.inr (.inr (by simpa using he)))
  |false=>
   refine⟨rfl,i.toNat,bA,bA,?_⟩;have:T.getD i.toNat false≠on:=by simpa using he
   revert this;generalize T.getD i.toNat false=y;cases y<;>cases on<;>simp
 ·rintro _ w2 ⟨rfl,n,rfl,r,rfl⟩;refine use (vP n w2) ?_;rintro _ f ⟨rfl,rfl⟩;have p:n/64<nW T.length:=by unfold nW;omega
  have m:∀c,s.p=some ⟨c,0,none⟩->(∀j,j<1->f.cell? ⟨c,((n/64:Nat):Int).toNat*1+j,none⟩=(mb T)[((n/64:Nat):Int).toNat*1+j]?)->f.cell? ⟨c,((n/64:Nat):Int).toNat*1,none⟩=some (.int .u64 ((gg T (n/64):Nat):Int)):=by
   intro c _ d;have:=d 0 bO;rw[lu]at this;rw[this,fC,dk,tW p]
  refine⟨_,_,rfl,_,rfl,s,h1.cell 1,bC.el 1 h1 rfl bA bA (λc k d=>⟨_,m c k d,bC.el 1 h1 rfl bA bA (λb2 l _=>?_)⟩)⟩;rw[Zn (o5 _ _) (tU (kx _ bO))];refine bC.st h1.swap l (by rw[tV,dk,fC];exact p) (λx g=>?_);have e:iX T (n:Int) (!T.getD n false)=(T.set n (!T.getD n false),true):=by
   unfold iX;rw[bJ,dk];rintro(a|a|a);·omega
   ·omega
   ·rw[dk]at a;revert a;generalize T.getD n false=y;cases y<;>decide
  rw[e];refine⟨rfl,iK.mk (by rw[dA];exact u) (by rw[dA];exact t) ?_⟩;rw[dk,fC,ZB r]at g;rw[dA];exact g.swap
def Ef{w:World}{o:Obj}(ho:p1 o)(h:w.heap[2]?=some o){x:Nat}(d:x≠0)(hx:x<18446744073709551616):Calls P Ks #[.int .u64 (x:Nat)] w (bW λv w'=>v=Iv (Lib.ctz 64 x:Nat)/\w'=w):=by
 apply Zk;unfold NA;refine eD (λe=>absurd e bA) (λ_=>?_);obtain⟨b,g⟩:=Lib.lowest_bit 64 x d hx;obtain⟨f,c⟩:=Lib.deBruijn64_at _ g;rw[Zt x _ hx d b];have a:=ho.cell h f;rw[c]at a;refine⟨bO,⟨2,0,none⟩,rfl,⟨bA,by exact_mod_cast f⟩,((Lib.ctz 64 x:Nat):Int),?_,?_,rfl⟩;·rw[cj,e5,fC,dk];exact a
 ·rw[cH bA bA]
def ZG{T:List Bool}:∀ {n i:Nat},(∀j,j<i->T[j]?=some true)->T[i]?=some false->firstFree n T=some (n+i):=by
 induction T with
 |nil=>intro n i _ h;simp at h
 |cons b T d=>
  intro n i h1 a;unfold firstFree;cases i with
  |zero=>simp only[lo,eF]at a;subst a;rfl
  |succ i=>
   have c:=h1 0 bA;simp only[lo,eF]at c;subst c;rw[bM rfl,d (n:=n+1) (i:=i) (λj e=>by simpa using h1 (j+1) bA) (by simpa using a)];congr 1;omega
def ZH{T:List Bool}:∀ {n:Nat},(∀j,j<T.length->T[j]?=some true)->firstFree n T=none:=by
 induction T with
 |nil=>intro n _;rfl
 |cons b T d=>
  intro n h;have a:=h 0 (by simp);simp only[lo,eF]at a;subst a;unfold firstFree;rw[bM rfl];exact d (λj c=>by simpa using h (j+1) (by simpa using c))
def ZI{o:Obj}(ho:p1 o){q:Nat}(h:Sep E L w)(M:L[q]?=some (iK b T))(G:w.heap[2]?=some o):Calls P Ko #[Pb b,Iv 0,.bool false] w
  (bW λv w'=>v=Iv (match firstFree 0 T with|some i=>(i:Int)|none=> -1)/\w'=w):=by
 apply Ze;unfold Nu q9 qK qL qO qQ qW;obtain⟨s,X,V,h1⟩:=iK.get (h.fr q M);have S:nW T.length<=2000:=by unfold nW;omega
 refine⟨_,rfl,s,h1.cell 1,?_⟩;refine⟨λx w'=>w'=w/\∃j:Nat,x=j/\j<=nW T.length/\∀i,i<64*j->i<T.length->T[i]?=some true,λx _=>(nW T.length-x).toNat,⟨rfl,0,rfl,ec _,λi f=>bA⟩,?_⟩;rintro _ x N ⟨rfl,j,rfl,W,c⟩;have B:i64.wrap ((j:Int)+1)=((j+1:Nat):Int):=by rw[cH bA bA];omega
 refine cL (λR=>?_) (λQ=>?_)
 ·have u:j<nW T.length:=by omega
  refine⟨_,rfl,s,h1.cell 1,bC.el 1 h1 rfl bA bA (λU O J=>⟨((gg T j:Nat):Int),?_,?_⟩)⟩
  ·have:=J 0 bO;rw[lu]at this;rw[this,fC,dk,tW u]
  ·generalize C:(18446744073709551615 ^^^ gg T j)=y;have r:y<18446744073709551616:=by rw[<- C];exact GY (n:=64) bO (o5 _ _)
   have d:∀k,k<64->y.testBit k= !T.getD (64*j+k) false:=λk t=>by rw[<- C,Zs t,tX _ _ _ t]
   have next:(∀i,i<64*(j+1)->i<T.length->T[i]?=some true)->(∃D:Nat,i64.wrap ((j:Int)+1)=D/\D<=nW T.length/\∀i,i<64*D->i<T.length->T[i]?=some true):=λl=>⟨j+1,B,u,l⟩
   have hm:dy 0 0=0:=by decide
   have H:i64.wrap ((j:Int)*2^(min (6:Int).toNat 64))=((64*j:Nat):Int):=by
    have:((j:Int)*2^(min (6:Int).toNat 64))=((64*j:Nat):Int):=by
     show(j:Int)*2^6=_;omega
    rw[this];exact cH bA bA
   refine⟨λx w'=>x=(y:Nat)/\w'=N,?_,?_⟩
   ·refine bT rfl ⟨?_,rfl⟩;rw[Zo (o5 _ _),C]
   ·rintro _ _ w2 ⟨rfl,rfl⟩;rw[hm,H];refine⟨λx w'=>x=(y:Nat)/\w'=w2,⟨bO,?_⟩,?_⟩
    ·rw[cH bA bA];refine hk (λl=>absurd l bA) (λ_=>eW (λl=>absurd l bA) (λ_=>⟨rfl,rfl⟩))
    ·rintro _ _ Y ⟨rfl,rfl⟩;refine eD (λe=>?_) (λe=>?_)
     ·
      have e:y=0:=by omega
      refine⟨⟨rfl,next (λi f a=>?_)⟩,by dsimp only;rw[B];omega⟩;rcases gS i (64*j)with g|g;·exact c i g a
      ·have:=d (i-64*j) bA;rw[e,Nat.zero_testBit,show 64*j+(i-64*j)=i by omega,dK,dD a]at this;rw[dD a];simp at this;rw[this]
     ·have A:y≠0:=by omega
      refine⟨bO,use (Ef ho G A r) ?_⟩;rintro _ Z ⟨rfl,rfl⟩;obtain⟨t,p,F⟩:=Zr A r;generalize Lib.ctz 64 y=k at*
      have I:i64.wrap ((((64*j:Nat):Int))+((k:Nat):Int))=((64*j+k:Nat):Int):=by rw[cH bA bA];omega
      refine⟨_,rfl,_,rfl,_,h1.cell 0,?_⟩;rw[I];have z:∀i,i<64*j+k->i<T.length->T[i]?=some true:=by
       intro i f a;rcases gS i (64*j)with g|g;·exact c i g a
       ·have:=F (i-64*j) bA;rw[d _ bA,show 64*j+(i-64*j)=i by omega,dK,dD a]at this;rw[dD a];simp at this;rw[this]
      refine cL (λm=>?_) (λK=>?_)
      ·have m:64*j+k<T.length:=by omega
       have:T[64*j+k]?=some false:=by
        rw[d _ t,dK,dD m]at p;rw[dD m];simp at p;rw[p]
       rw[ZG (n:=0) (λi f=>z i f bA) this];refine⟨?_,rfl⟩;dsimp only;rw[e5]
      ·refine⟨⟨rfl,next (λi f a=>z i bA a)⟩,by dsimp only;rw[B];omega⟩
 ·have:j=nW T.length:=by omega
  subst this;rw[ZH (λi f=>c i (by unfold nW;omega) f)];exact⟨rfl,rfl⟩
def fY(p:Nat)(T:List Bool):Asn:=e8 λb:Nat=>cC (T.length<=1024) (star (bE p [Pb b]) (iK b T))
def fY.get{p:Nat}{T:List Bool}(h:Sep E (fY p T::L) w):∃b,T.length<=1024/\Sep E (bE p [Pb b]::iK b T::L) w:=by
 obtain⟨b,h⟩:=Sep.ex.1 h;obtain⟨a,h⟩:=Sep.cC.1 h;exact⟨b,a,Sep.star.1 h⟩
def fY.mk{p b:Nat}{T:List Bool}(a:T.length<=1024)(h:Sep E (bE p [Pb b]::iK b T::L) w):Sep E (fY p T::L) w:=Sep.ex.2 ⟨b,Sep.cC.2 ⟨a,Sep.star.2 h⟩⟩
def ZJ(n:Int)(h:Sep E L w):Calls P I3 #[Iv n] w (bW λv w'=>∃p,v=Pb p/\Sep E (fY p (iu n)::L) w'):=by
 apply Wu;unfold La qR;refine use (ZE (min1 n 1024) h) ?_;rintro _ c ⟨b,rfl,h1⟩;have e:(min (max (min1 n 1024) 0).toNat 65536)=min (max n 0).toNat 1024:=by unfold min1;split<;>omega
 rw[e]at h1;exact⟨_,rfl,Al.i h1 (λp w2 a=>⟨p,rfl,fY.mk (by unfold iu;rw[kJ];omega) a⟩)⟩
variable{p:Nat}
def ZK{o:Obj}(ho:p1 o)(h:Sep E (fY p T::L) w)(j:w.heap[2]?=some o):Calls P tK #[Pb p] w
  (bW λv w'=>v=.tuple #[Iv (fQ T).2.1,Iv (fQ T).2.2]/\Sep E (fY p (fQ T).1::L) w'):=by
 apply YZ;unfold Nd qF qQ qZ;obtain⟨b,g,c⟩:=fY.get h;refine⟨_,rfl,_,c.cell 0,use (ZI ho (q:=1) c rfl j) ?_⟩;rintro _ w2 ⟨rfl,rfl⟩;refine⟨_,rfl,?_⟩;unfold fQ;cases hf:firstFree 0 T with
 |none=>exact cL (λ_=>⟨rfl,h⟩) (λa=>absurd a bO)
 |some i=>
  dsimp only;obtain⟨_,d,_⟩:=BP hf;rw[Hn]at d;have k:=(cT.1 d).1;refine cL (λa=>absurd a bA) (λ_=>⟨_,rfl,_,c.cell 0,use (NK c.swap (i:Int) true) ?_⟩);rintro _ l ⟨rfl,f⟩;have e:iX T (i:Int) true=(T.set i true,true):=by
   unfold iX;rw[bJ,dk];rintro(a|a|a);·omega
   ·omega
   ·rw[dk,dK,d]at a;cases a
  rw[e]at f;exact⟨_,rfl,rfl,fY.mk (by rw[dA];exact g) f.swap⟩
def ZL(h:Sep E (fY p T::L) w)(i:Int):Calls P JW #[Pb p,Iv i] w
  (bW λv w'=>v=Iv (mJ T i).2/\Sep E (fY p (mJ T i).1::L) w'):=by
 apply Ye;unfold My qF qQ qZ qh;obtain⟨b,g,e⟩:=fY.get h;refine⟨λx w'=>w'=w/\x=decide (i<0\/(T.length:Int)<=i),cL (λc=>⟨rfl,by rw[dh (.inl c)]⟩) (λc=>⟨_,rfl,_,e.cell 0,use (NJ (q:=1) e rfl) ?_⟩),?_⟩
 ·rintro _ w2 ⟨rfl,rfl⟩;refine⟨_,rfl,rfl,?_⟩;by_cases f:(T.length:Int)<=i;·rw[dh (show i≥(T.length:Int)from f),dh (.inr f)]
  ·rw[c4 (show ¬ i≥(T.length:Int)from f),c4 bA]
 ·rintro _ x w2 ⟨rfl,rfl⟩;unfold mJ;by_cases a:i<0\/(T.length:Int)<=i;·rw[dh a,bM a];exact⟨rfl,h⟩
  ·rw[c4 a,bJ a];refine⟨_,rfl,_,e.cell 0,use (NK e.swap i false) ?_⟩;rintro _ k ⟨rfl,d⟩;refine⟨_,rfl,?_⟩;unfold iX at d ⊢;by_cases hf:T.getD i.toNat false=false
   ·rw[bM (.inr (.inr hf))]at d ⊢;rw[bM hf];exact⟨rfl,fY.mk g d.swap⟩
   ·have j:¬ (i<0\/(T.length:Int)<=i\/T.getD i.toNat false=false):=by
     rintro(c|c|c);·exact a (.inl c)
     ·exact a (.inr c)
     ·exact hf c
    rw[bJ j]at d ⊢;rw[bJ hf];exact⟨rfl,fY.mk (by rw[dA];exact g) d.swap⟩
end Go.Mp
namespace Go.Sp
open Go Go.Vc
variable{E:Env}{L:ch}{w:World}
def Ints(E:Env)(L:ch)(s:Sl)(gs:bU):Prop:=s.n=gs.length/\∀w,Sep E L w->∀(i:Nat) x,gs[i]?=some x->∃a,s.p=some a/\w.cell? (a.add i)=some (.int .i64 x)
def Ints.of{L':ch}{s:Sl}{gs:bU}(h:Ints E L s gs)(hw:∀w,Sep E L' w->Sep E L w):Ints E L' s gs:=⟨h.1,λw a=>h.2 w (hw w a)⟩
def Ints.cons{A:Asn}{s:Sl}{gs:bU}(h:Ints E L s gs):Ints E (A::L) s gs:=h.of (λ_ a=>a.tail)
def Ints.el{s:Sl}{gs:bU}{i x:Int}{F:Int->Prop}(b:Ints E L s gs)(h:Sep E L w)(k:Nat)(g:i=k)(hx:gs[k]?=some x)(f:F x):cx s.p s.n i 1 λa=>∃v:Int,w.cell? a=some (.int .i64 v)/\F v:=by
 have d:=(cT.1 hx).1;obtain⟨a,hp,c⟩:=b.2 w h k x hx;have:=b.1;refine⟨a,hp,⟨bA,bA⟩,x,?_,f⟩;have e:i.toNat*1=k:=by omega
 rw[e];exact c
def Ints.row{s:Sl}{gs:bU}(c:s.n=gs.length):Ints E (bC s 1 (bD gs)::L) s gs:=by
 refine⟨c,λw h i x hx=>?_⟩;have d:=(cT.1 hx).1;obtain⟨b,spare,hp,h1,_,_,a⟩:=bC.h2 h bA;refine⟨_,hp,?_⟩;rw[cj,e5,bC.cell a (by rw[h1];omega)];simp[bD,hx]
def Ints.at_{s:Sl}{gs:bU}{q:Nat}(b:L[q]?=some (bC s 1 (bD gs)))(a:s.n=gs.length):Ints E L s gs:=
 (Ints.row (L:=L.eraseIdx q) a).of (λ_ h=>h.fr q b)
def Ints.gY{b c:Nat}{gs:bU}{q:Nat}(a:L[q]?=some (bE b (bD gs))):Ints E L ⟨some ⟨b,0,none⟩,gs.length,c⟩ gs:=by
 refine⟨rfl,λw h i x hx=>⟨_,rfl,?_⟩⟩;rw[cj,e5,h.cellAt q a,y9,hx];rfl
def c1{k:Nat}(h:k<4611686018427387904:=by omega):i64.wrap ((k:Int)+1)=((k+1:Nat):Int):=by rw[cH bA bA];omega
def fw{α:Type}{l:List α}{k:Nat}{c:α}(h:l[k]?=some c):l.take (k+1)=l.take k++[c]:=by rw[mA,h];rfl
def k1{α:Type}{f:α->List Value}{m n:Nat}{l:List α}{i:Int}{F:Addr->Prop}{b q:Nat}(hf:∀a,(f a).length=m)(h:Sep E L w)(o:L[q]?=some (bE b (bQ f l)))(p:l.length=n)(g:0<=i)(h1:i<n)(k:∀a,l[i.toNat]?=some a->(∀j v,(f a)[j]?=some v->w.cell? ⟨b,i.toNat*m+j,none⟩=some v)->F ⟨b,i.toNat*m,none⟩):cx (some ((⟨b,0,none⟩:Addr).add 0)) n i m F:=by
 have c:i.toNat<l.length:=by omega
 refine⟨_,rfl,⟨g,h1⟩,?_⟩;rw[cj,cj,e5];refine k _ (dD c) (λj v d=>?_);have e:j<m:=by have:=(cT.1 d).1;rwa[hf]at this
 rw[h.cellAt q o,tR hf (dD c) j e];exact d
end Go.Sp
namespace Go.Mp
open Go Go.Vc Go.Proofs
variable{K:bh7}{w:World}
variable(K w)
def NL(bN bR:Int)(bP:Sl):=
 qR Cm #[Iv bN,Iv bR,Sv bP] w λd b=>Al (.cells #[Pv d,.slice none 0 0] 71) (λa c=>K (Pv (some a)) c) b
def NM(v:cg):=
 NN v λa=>qZ w a 0 λb=>K (Pv b) w
def NO(v:cg)(E F G H I:Int):=
 Al (.cells #[Iv E,Iv F,Iv G,Iv H,Iv I] 37) (λb w2=>zW w2 λc ar=>Dr (λY=>qL Y b 0 λal=>Calls P IZ #[] Y λaq g=>∃ap:Option Nat,aq=.returned (.map ap)/\zH g b 0 (Iv al) λau=>∃h:Value,gk P 86 (.map ap) (Iv al) false g h/\∃k:Bool,jY P .neq 85 h .nilFunc k/\cond k (zL g b λaa ab ad ae af=>eX P h #[Pv v,.agg #[Iv aa,Iv ab,Iv ad,Iv ae,Iv af]] g λB X=>∃s:Int,∃t:Int,∃u:Sl,B=.returned (.agg #[Iv s,Iv t,Sv u])/\qU [Iv s,Iv t,Sv u] c X λm=>zI m c λJ L M=>K (.agg #[Iv J,Iv L,Sv M]) m) (Dr (λn=>zZ n b λe x=>Calls P I0 #[] n λC d=>∃i:Option Nat,C=.returned (.map i)/\zH d b 1 (Iv x) λav=>zH d b 0 (Iv e) λaw=>∃f:Value,gk P 89 (.map i) (Iv e) false d f/\qR nA #[Pv v,Iv x] d λy a=>∃z:Value,gk P 89 (.map i) (Iv e) false a z/\(z:Value)=f/\zH a b 0 (Iv e) λax=>∃l:Bool,jY P .eql 88 f .nilFunc l/\cond l (qU [Iv 1,Iv 0,.slice none 0 0] c a λo=>zI o c λN O Q=>K (.agg #[Iv N,Iv O,Sv Q]) o) (cond y.isNone (qU [Iv 2,Iv 0,.slice none 0 0] c a λp=>zI p c λR S T=>K (.agg #[Iv R,Iv S,Sv T]) p) (zL a b λag ah ai aj ak=>Al (.cells #[Iv ag,Iv ah,Iv ai,Iv aj,Iv ak,Pv v,Pv y,Iv 0,Iv 0,.slice none 0 0] 93) (λj Z=>eX P f #[Pv (some j)] Z λD q=>D=.returned (.tuple #[])/\NN (some j) λA=>zI q (A.add 7) λam an ao=>qU [Iv am,Iv an,Sv ao] c q λr=>zI r c λU V W=>K (.agg #[Iv U,Iv V,Sv W]) r) a))) g)) ar) w
def NP(v:cg):=
 NN v λF=>qK w F 1 λx=>qf ⟨none,0,0⟩ 0 w λE k j i=>cond (decide (j<((x.n:Nat):Int))) (qW x j 2 λa9=>zq i a9 λr s=>Al (.cells #[Iv 0,Pv none] 95) (λc m=>qU [Iv r,Pv s] c m λe=>zq e c λt u=>zz e λa n=>qU [Iv t,Iv 0,.bool (!u.isNone)] a n λb=>qg (λd=>qy b a 2 λy=>cond y (qZ b c 1 λz=>qQ I1 #[Pv z] b λA o=>St (a.add 1) (Iv A) (λp=>d p) o) (d b)) λf=>qa f a λB C D=>Al (.cells #[Iv B,Iv C,.bool D] 42) (λl q=>∃h:Sl,∃g:World,Sem.run P (Builtin.append_ #[39,39] 39 #[Sv k,.slice (some l) 1 1]) q=.ok (Sv h) g/\(E h (i64.wrap (j+1)) g)) f) i) (K (Sv k) i)
def NQ(v:cg)(pid:Int):=
 qg (λa=>cond (decide (pid<0)) (K (Pv none) w) (NN v λa4=>qK w a4 1 λd=>cond (decide (pid≥((d.n:Nat):Int))) (K (Pv none) w) (a w))) λw2=>NN v λb=>qK w2 b 1 λe=>qW e pid 2 λc=>qZ w2 c 1 λf=>K (Pv f) w2
def NR(s:cg):=
 qJ Cn #[Pv s,Iv 0,Iv 65536] w λb a=>K (Sv b) a
def NS(bN bR:Int)(bP l:Sl):=
 qR acl #[Iv bN,Iv bR,Sv bP] w λD C=>qf ⟨none,0,0⟩ 0 C λB a g f=>cond (decide (g<((l.n:Nat):Int))) (qW l g 5 λh=>zL f h λn o p q r=>Al (.cells #[Iv 0,Iv 0,Iv 0,Iv 0,Iv 0] 37) (λb j=>qU [Iv n,Iv o,Iv p,Iv q,Iv r] b j λc=>zL c b λs t u v x=>zx iz #[Pv D,.agg #[Iv s,Iv t,Iv u,Iv v,Iv x]] c λy z A k=>Al (.cells #[Iv y,Iv z,Sv A] 33) (λi m=>∃e:Sl,∃d:World,Sem.run P (Builtin.append_ #[60,60] 60 #[Sv a,.slice (some i) 1 1]) m=.ok (Sv e) d/\(B e (i64.wrap (g+1)) d)) k) f) (K (Sv a) f)
def ZM:=
 mE (λa w2=>∃b:World,Sem.run P (Instr.mapUpdate 86 (.map (some a)) (Iv 0) (.func (.func ym) #[] #[])) w2=.ok () b/\∃c:World,Sem.run P (Instr.mapUpdate 86 (.map (some a)) (Iv 1) (.func (.func yn) #[] #[])) b=.ok () c/\∃d:World,Sem.run P (Instr.mapUpdate 86 (.map (some a)) (Iv 2) (.func (.func yo) #[] #[])) c=.ok () d/\∃e:World,Sem.run P (Instr.mapUpdate 86 (.map (some a)) (Iv 3) (.func (.func yp) #[] #[])) d=.ok () e/\∃f:World,Sem.run P (Instr.mapUpdate 86 (.map (some a)) (Iv 12) (.func (.func yq) #[] #[])) e=.ok () f/\∃g:World,Sem.run P (Instr.mapUpdate 86 (.map (some a)) (Iv 13) (.func (.func yr) #[] #[])) f=.ok () g/\K (.map (some a)) g) w
def ZN:=
 mE (λa w2=>∃c:World,Sem.run P (Instr.mapUpdate 89 (.map (some a)) (Iv 4) (.func (.func ys) #[] #[])) w2=.ok () c/\∃d:World,Sem.run P (Instr.mapUpdate 89 (.map (some a)) (Iv 11) (.func (.func yt) #[] #[])) c=.ok () d/\∃e:World,Sem.run P (Instr.mapUpdate 89 (.map (some a)) (Iv 5) (.func (.func yu) #[] #[])) d=.ok () e/\∃f:World,Sem.run P (Instr.mapUpdate 89 (.map (some a)) (Iv 6) (.func (.func yv) #[] #[])) e=.ok () f/\∃g:World,Sem.run P (Instr.mapUpdate 89 (.map (some a)) (Iv 7) (.func (.func yw) #[] #[])) f=.ok () g/\∃h:World,Sem.run P (Instr.mapUpdate 89 (.map (some a)) (Iv 8) (.func (.func yx) #[] #[])) g=.ok () h/\∃i:World,Sem.run P (Instr.mapUpdate 89 (.map (some a)) (Iv 9) (.func (.func yy) #[] #[])) h=.ok () i/\∃b:World,Sem.run P (Instr.mapUpdate 89 (.map (some a)) (Iv 10) (.func (.func yz) #[] #[])) i=.ok () b/\K (.map (some a)) b) w
def NT(s:cg):=
 NN s λa=>qZ w a 1 λc=>qQ I2 #[Pv c] w λd b=>K (Iv d) b
def NU(s:cg)(b k:Int):=
 NN s λy=>qZ w y 1 λA=>qJ yB #[Pv A,Iv b,Iv k] w λv z=>qf ⟨none,0,0⟩ 0 z λx c a h=>cond (decide (a<((v.n:Nat):Int))) (qW v a 1 λi=>qD h i λo=>zy tB #[Pv s,Iv o] h λp q r t B l=>zu l λd m=>qU [Iv p,Iv q,.bool r,.bool t] d m λe=>qL e d 1 λu=>qC #[Iv u] e λj n=>∃g:Sl,∃f:World,Sem.run P (Builtin.append_ #[22,22] 22 #[Sv c,.slice (some j) 1 1]) n=.ok (Sv g) f/\(x g (i64.wrap (a+1)) f)) (K (Sv c) h)
def NV(v:cg)(c d e f g:Int):=
 Al (.cells #[Iv c,Iv d,Iv e,Iv f,Iv g] 37) (λo w2=>zW w2 λh p=>Dr (λb=>NN v λn=>qZ b n 0 λr=>qL b o 1 λs=>qj I6 #[Pv r,Iv s] b λl m q=>qU [Iv m,Iv (dy l 0),.slice none 0 0] h q λa=>zI a h λi j k=>K (.agg #[Iv i,Iv j,Sv k]) a) p) w
def NW(v:cg)(t u x y z:Int):=
 Al (.cells #[Iv t,Iv u,Iv x,Iv y,Iv z] 37) (λd w2=>zW w2 λj X=>qh (λp=>Dr (λh=>qL h d 1 λL=>cond (L !=0) (NN v λq=>qZ h q 0 λM=>qL h d 1 λn=>qR tA #[Pv M] h λN k=>zH k d 1 (Iv n) λY=>qF jR #[Pv N,Iv n] k λO G=>p O G) (p false h)) X) λi J=>NN v λr=>qK J r 1 λo=>qO 0 J λc b f=>cond (decide (b<((o.n:Nat):Int))) (qW o b 2 λa28=>zq f a28 λP Q=>Al (.cells #[Iv 0,Pv none] 95) (λe H=>qU [Iv P,Pv Q] e H λa=>cond i (qZ a e 1 λR=>cond (!R.isNone) (qL a e 0 λS=>qL a d 1 λT=>cond (S==T) (qU [Iv 4,Iv 0,.slice none 0 0] j a λl=>zI l j λA B C=>K (.agg #[Iv A,Iv B,Sv C]) l) ((c (i64.wrap (b+1)) a))) ((c (i64.wrap (b+1)) a))) ((c (i64.wrap (b+1)) a))) f) (Dr (λg=>NN v λs=>qZ g s 0 λU=>qL g d 1 λV=>qQ I7 #[Pv U,Iv V] g λW I=>qU [Iv W,Iv 0,.slice none 0 0] j I λm=>zI m j λD E F=>K (.agg #[Iv D,Iv E,Sv F]) m) f)) w
def NX(v:cg)(d e f g h:Int):=
 Al (.cells #[Iv d,Iv e,Iv f,Iv g,Iv h] 37) (λc w2=>zW w2 λi q=>Dr (λa=>NN v λp=>qZ a p 0 λr=>qL a c 1 λs=>qL a c 2 λt=>qL a c 3 λn=>qQ I8 #[Pv r,Iv s,Iv t,Iv n] a λo m=>qU [Iv o,Iv 0,.slice none 0 0] i m λb=>zI b i λj k l=>K (.agg #[Iv j,Iv k,Sv l]) b) q) w
def NY(v:cg)(k l m n o:Int):=
 Al (.cells #[Iv k,Iv l,Iv m,Iv n,Iv o] 37) (λc w2=>zW w2 λb M=>Dr (λj=>NN v λL=>qZ j L 0 λN=>qL j c 1 λJ=>qR tA #[Pv N] j λC B=>zH B c 1 (Iv J) λO=>qF jR #[Pv C,Iv J] B λD a=>cond (!D) (qU [Iv 2,Iv 0,.slice none 0 0] b a λd=>zI d b λp q r=>K (.agg #[Iv p,Iv q,Sv r]) d) (NN v λa20=>qK a a20 1 λE=>cond (decide (((E.n:Nat):Int)≥64)) (qU [Iv 3,Iv 0,.slice none 0 0] b a λe=>zI e b λs t u=>K (.agg #[Iv s,Iv t,Sv u]) e) (Dr (λf=>qL f c 1 λi=>qR I9 #[] f λF g=>zH g c 1 (Iv i) λP=>zx Cy #[Pv v,Iv i,Pv F] g λG H I A=>qU [Iv G,Iv H,Sv I] b A λh=>zI h b λx y z=>K (.agg #[Iv x,Iv y,Sv z]) h) a))) M) w
def NZ(v:cg)(c d e f g:Int):=
 Al (.cells #[Iv c,Iv d,Iv e,Iv f,Iv g] 37) (λn w2=>zW w2 λh o=>Dr (λb=>NN v λm=>qZ b m 0 λq=>qL b n 1 λr=>qQ Ja #[Pv q,Iv r] b λl p=>qU [Iv 0,Iv l,.slice none 0 0] h p λa=>zI a h λi j k=>K (.agg #[Iv i,Iv j,Sv k]) a) o) w
def N0(v:cg)(c d e f g:Int):=
 Al (.cells #[Iv c,Iv d,Iv e,Iv f,Iv g] 37) (λh w2=>zW w2 λi p=>Dr (λa=>NN v λo=>qZ a o 0 λq=>qL a h 1 λr=>qL a h 2 λs=>qQ Jb #[Pv q,Iv r,Iv s] a λn m=>qU [Iv 0,Iv n,.slice none 0 0] i m λb=>zI b i λj k l=>K (.agg #[Iv j,Iv k,Sv l]) b) p) w
def N1(c:cg):=
 Dr (λb=>NN c λr=>qZ b r 5 λs=>NN s λa4=>qZ b a4 0 λt=>NN c λg=>qL b (g.add 0) 2 λq=>qR tA #[Pv t] b λk j=>zH j (g.add 0) 2 (Iv q) λu=>qF jR #[Pv k,Iv q] j λl d=>cond (!l) (NN c λe=>St ((e.add 7).add 0) (Iv 2) (λh=>K (.tuple #[]) h) d) (Dr (λa=>NN c λf=>qZ a f 5 λm=>NN m λa20=>qK a a20 1 λn=>NN c λa22=>qL a (a22.add 0) 1 λo=>NN c λa24=>qL a (a24.add 0) 2 λp=>qW n o 2 λa26=>St (a26.add 0) (Iv p) (λi=>K (.tuple #[]) i) a) d)) w
def N2(c:cg):=
 Dr (λa=>NN c λb=>qZ a b 5 λe=>NN c λa4=>qL a (a4.add 0) 1 λf=>qE Cz #[Pv e,Iv f] a λd=>K (.tuple #[]) d) w
def N3(c:cg):=
 qF yE #[Pv c] w λl e=>cond l (Dr (λa=>NN c λa5=>qZ a a5 6 λm=>NN c λk=>qL a (k.add 0) 3 λn=>NN c λa9=>qL a (a9.add 0) 3 λh=>NN c λb=>qL a (b.add 0) 2 λi=>qQ yF #[Pv m,.agg #[Iv n,Iv (i64.wrap (h+i)),Iv 1,Iv 0,Iv 0,.bool true]] a λj f=>NN c λd=>St ((d.add 7).add 0) (Iv j) (λg=>K (.tuple #[]) g) f) e) (K (.tuple #[]) e)
def N4(c:cg):=
 qF yE #[Pv c] w λP r=>cond (!P) (K (.tuple #[]) r) (qg (λM=>Dr (λd=>NN c λN=>qL d (N.add 0) 4 λQ=>cond (decide (Q<0)) (NN c λi=>St ((i.add 7).add 0) (Iv 1) (λs=>K (.tuple #[]) s) d) (NN c λf=>qL d (f.add 0) 4 λg=>NN c λj=>qZ d j 5 λy=>NN y λk=>qZ d k 0 λz=>qQ Jc #[Pv z] d λA a=>zH a (f.add 0) 4 (Iv g) λR=>cond (decide (g≥A)) (NN c λa22=>St ((a22.add 7).add 0) (Iv 1) (λt=>K (.tuple #[]) t) a) (NN c λa24=>qL a (a24.add 0) 2 λh=>NN c λa26=>qZ a a26 5 λB=>NN B λa28=>qZ a a28 0 λC=>NN c λl=>qL a (l.add 0) 4 λD=>qQ Jd #[Pv C,Iv D] a λE e=>zH e (a24.add 0) 2 (Iv h) λS=>cond (decide (h>E)) (NN c λa36=>St ((a36.add 7).add 0) (Iv 1) (λu=>K (.tuple #[]) u) e) (M e)))) r) λO=>Dr (λb=>NN c λm=>qZ b m 6 λF=>NN c λa41=>qL b (a41.add 0) 3 λG=>NN c λn=>qL b (n.add 0) 3 λH=>NN c λo=>qL b (o.add 0) 2 λI=>NN c λp=>qL b (p.add 0) 4 λJ=>qQ yF #[Pv F,.agg #[Iv G,Iv (i64.wrap (H+I)),Iv 2,Iv J,Iv 0,.bool true]] b λL v=>NN c λq=>St ((q.add 7).add 0) (Iv L) (λx=>K (.tuple #[]) x) v) O)
def N5(c:cg):=
 qF yE #[Pv c] w λn g=>cond n (Dr (λa=>NN c λa5=>qZ a a5 6 λo=>NN c λm=>qL a (m.add 0) 3 λp=>NN c λa9=>qL a (a9.add 0) 3 λj=>NN c λe=>qL a (e.add 0) 2 λk=>qJ CA #[Pv o,Iv p,Iv (i64.wrap (j+k))] a λd b=>NN c λf=>qZ b f 5 λl=>qE CB #[Pv l,Sv d] b λh=>NN c λa20=>St ((a20.add 7).add 1) (Iv ((d.n:Nat):Int)) (λi=>K (.tuple #[]) i) h) g) (K (.tuple #[]) g)
def N6(c:cg):=
 zk CC #[Pv c] w λj V W X Y Z aa y U=>zg U λd r=>qU [Iv V,Iv W,Iv X,Iv Y,Iv Z,.bool aa] d r λe=>cond (!y) (NN c λk=>St ((k.add 7).add 0) (Iv 14) (λs=>K (.tuple #[]) s) e) (qg (λf=>NN c λl=>qZ e l 6 λz=>zy tB #[Pv z,Iv j] e λA B C D E t=>zu t λq u=>qU [Iv A,Iv B,.bool C,.bool D] q u λa=>cond (!E) (qL a d 2 λF=>cond (F==1) (K (.tuple #[]) a) (f a)) (f a)) λg=>zR g d λG H I J L M=>qp CD #[Pv c,Iv j,.agg #[Iv G,Iv H,Iv I,Iv J,Iv L,.bool M]] g λN O h=>cond (!O) (K (.tuple #[]) h) (Dr (λb=>NN c λm=>qZ b m 5 λP=>NN P λn=>qZ b n 0 λQ=>NN c λo=>qL b (o.add 0) 2 λR=>qo Je #[Pv Q,Iv N,Iv (bV .i64 R 15)] b λS ab i=>NN c λa53=>qZ i a53 6 λT=>qF CE #[Pv T,Iv j] i λad v=>NN c λp=>St ((p.add 7).add 1) (Iv (i64.wrap S)) (λx=>K (.tuple #[]) x) v) h))
def N7(c:cg):=
 Al (.cells #[Pv c] 91) (λa w2=>qb w2 a λan=>zk CC #[Pv an] w2 λao ap aq ar I J L M am=>qC #[Iv 0] am λi A=>zg A λj B=>St i (Iv ao) (λC=>qU [Iv ap,Iv aq,Iv ar,Iv I,Iv J,.bool L] j C λe=>qg (λh=>qh (λm=>qb e a λO=>NN O λa28=>qL e (a28.add 0) 3 λQ=>cond (decide (Q<0)) (m true e) (qb e a λR=>NN R λr=>qL e (r.add 0) 3 λS=>m (decide (S>255)) e)) λN b=>cond N (qb b a λT=>NN T λs=>St ((s.add 7).add 0) (Iv 1) (λD=>h D) b) (cond (!M) (qb b a λU=>NN U λt=>St ((t.add 7).add 0) (Iv 14) (λE=>h E) b) (qy b j 5 λV=>cond (!V) (qb b a λW=>NN W λa41=>St ((a41.add 7).add 0) (Iv 15) (λF=>h F) b) (h b)))) λf=>qb f a λX=>NN X λa44=>qL f (a44.add 7) 0 λY=>cond (Y !=0) (K (.tuple #[]) f) (∃l:bh7,(qL f j 2 λZ=>cond (Z==2) (l (.func (.func Jh) #[] #[Pv (some a),Pv (some i),Pv (some j)]) f) (l (.func (.func Jf) #[] #[Pv (some a),Pv (some i)]) f))/\(∀al:Nat->Value,∀g:Value,∀n:World,l g n->eX P g #[] n λz o=>∃p:Int,∃q:Bool,z=.returned (.tuple #[Iv p,.bool q])/\cond q (Dr (λd=>qb d a λaa=>NN aa λa57=>qZ d a57 5 λab=>NN ab λu=>qZ d u 0 λad=>qb d a λae=>NN ae λv=>qL d (v.add 0) 2 λaf=>qb d a λag=>NN ag λx=>qL d (x.add 0) 3 λah=>qQ Ji #[Pv ad,Iv p,Iv (bV .i64 af 15),.int .u8 (IntKind.u8.wrap ah)] d λau G=>Dr (λk=>qb k a λai=>NN ai λy=>qZ k y 6 λaj=>qD k i λak=>qF CE #[Pv aj,Iv ak] k λav H=>K (.tuple #[]) H) G) o) (K (.tuple #[]) o)))) B) w
def N8(c:cg):=
 NN c λB=>qZ w B 5 λF=>NN F λa3=>qK w a3 1 λG=>cond (decide (((G.n:Nat):Int)≥64)) (NN c λa5=>St ((a5.add 7).add 0) (Iv 3) (λD=>K (.tuple #[]) D) w) (NN c λC=>qZ w C 6 λH=>qR Jj #[Pv H] w λe E=>qJ IY #[Pv e] E λf l=>qO 0 l λg d b=>cond (decide (d<((f.n:Nat):Int))) (qW f d 1 λa20=>qD b a20 λp=>NN c λa22=>qZ b a22 5 λq=>NN q λa24=>qZ b a24 0 λr=>qQ vy #[Pv r,Iv p,Iv 1] b λI m=>(g (i64.wrap (d+1)) m)) (Dr (λa=>NN c λh=>qZ a h 5 λs=>NN c λa32=>qZ a a32 5 λt=>NN t λi=>qK a i 1 λu=>NN c λa36=>qL a (a36.add 0) 1 λv=>qW u v 2 λj=>qL a j 0 λx=>zx Cy #[Pv s,Iv x,Pv e] a λy z A n=>NN c λk=>qU [Iv y,Iv z,Sv A] (k.add 7) n λo=>K (.tuple #[]) o) b))
def N9(t:cg):=
 qJ yC #[(.func (.func oo) #[Pv t] #[])] w λb a=>K (Iv ((b.n:Nat):Int)) a
def Eg(t:cg)(a b:Int):=
 qC #[Iv a] w λg w2=>qC #[Iv b] w2 λh i=>Al (.cells #[.slice none 0 0] 22) (λc j=>ib P 23 (.func (.func oo) #[Pv t] #[]) #[11] (jO Go.Proofs.Tryz.f68.body) (jP Go.Proofs.Tryz.f68.body) (.exit 0) ((((((((iQ [Pv t,Iv a,Iv b] 0 .nil).put (some 4) (Pv (some g))).put (some 5) (Pv (some h))).put (some 6) (.slice none 0 0)).put (some 7) (Pv (some c))).put (some 9) (Pv t)).put (some 10) (.func (.func oo) #[Pv t] #[]))) j (λb7 d=>qc d c λk=>d.heap[b7]?=some (.deferred (some []))/\K (Sv k) (d.putObj b7 (.deferred none))) (λb8 e=>qc e c λf=>e.heap[b8]?=some (.deferred (some []))/\K (Sv f) (e.putObj b8 (.deferred none)))) i
def Oa(s:cg)(bH:Int):=
 zu w λa w2=>NN s λa3=>qZ w2 a3 1 λA=>zh tC #[Pv A,Iv bH] w2 λB C o=>cond (!C) (qU [Iv 0,Iv 0,.bool false,.bool false] a o λp=>zn p a λe f g h=>K (.tuple #[.agg #[Iv e,Iv f,.bool g,.bool h],.bool false]) p) (zt CF #[.int .u64 B] o λq r t u D m=>zu m λb n=>qU [Iv q,Iv r,.bool t,.bool u] b n λc=>zn c b λv x y z=>qU [Iv v,Iv x,.bool y,.bool z] a c λd=>zn d a λi j k l=>K (.tuple #[.agg #[Iv i,Iv j,.bool k,.bool l],.bool true]) d)
def Ob(v:cg)(group:Int)(s:cg):=
 zW w λd w2=>NN v λa3=>qK w2 a3 1 λm=>Al (.cells #[Iv group,Pv s] 95) (λk l=>∃j:Sl,∃h:World,Sem.run P (Builtin.append_ #[69,69] 69 #[Sv m,.slice (some k) 1 1]) l=.ok (Sv j) h/\NN v λa9=>St (a9.add 1) (Sv j) (λa=>NN v λc=>qK a c 1 λi=>qU [Iv 0,Iv (i64.wrap (((i.n:Nat):Int)-1)),.slice none 0 0] d a λb=>zI b d λe f g=>K (.agg #[Iv e,Iv f,Sv g]) b) h) w2
def Oc:=
 qR yH #[] w λd b=>Al (.cells #[.slice none 0 0,Pv d] 112) (λa c=>K (Pv (some a)) c) b
def Od(v:cg)(pid:Int):=
 NN v λf=>qK w f 1 λh=>qW h pid 2 λa3=>qZ w a3 1 λi=>qJ CA #[Pv i,Iv 0,Iv 65536] w λj g=>qE CB #[Pv v,Sv j] g λd=>NN v λa=>qK d a 1 λe=>qW e pid 2 λb=>St (b.add 1) (Pv none) (λc=>K (.tuple #[]) c) d
def Oe(c:cg):=
 NN c λg=>qL w (g.add 0) 2 λk=>qF CI #[Iv k] w λl b=>cond (!l) (NN c λh=>St ((h.add 7).add 0) (Iv 1) (λj=>K (.bool false) j) b) (NN c λi=>qL b (i.add 0) 3 λm=>qF CI #[Iv m] b λf a=>cond (!f) (NN c λd=>St ((d.add 7).add 0) (Iv 1) (λe=>K (.bool false) e) a) (K (.bool true) a))
def Of(s:cg)(i j k l m:Int)(n:Bool):=
 zY #[Iv i,Iv j,Iv k,Iv l,Iv m,.bool n] w λo w2=>Dr (λc=>NN s λa4=>qK c a4 0 λp=>zR c o λq r t u f g=>zF Ju #[Sv p,.agg #[Iv q,Iv r,Iv t,Iv u,Iv f,.bool g]] c λh a b=>cond (a==0) (NN s λd=>St (d.add 0) (Sv h) (λe=>K (Iv a) e) b) (K (Iv a) b)) w2
def Og(s:cg)(a c:Int):=
 qJ Cn #[Pv s,Iv a,Iv c] w λt h=>NN s λa4=>qZ h a4 1 λu=>qJ yB #[Pv u,Iv a,Iv c] h λp r=>qO 0 r λq d b=>cond (decide (d<((p.n:Nat):Int))) (qW p d 1 λe=>qD b e λl=>NN s λf=>qZ b f 1 λm=>qF CK #[Pv m,Iv l] b λv i=>(q (i64.wrap (d+1)) i)) (NN s λg=>qK b g 0 λn=>qJ Jw #[Sv n,Iv a,Iv c] b λo j=>NN s λa26=>St (a26.add 0) (Sv o) (λk=>K (Sv t) k) j)
def Oh(v:cg)(ids:Sl):=
 qO 0 w λd b a=>cond (decide (b<((ids.n:Nat):Int))) (qW ids b 1 λe=>qD a e λg=>NN v λf=>qZ a f 0 λh=>qQ vy #[Pv h,Iv g,Iv (-1)] a λi c=>(d (i64.wrap (b+1)) c)) (K (.tuple #[]) a)
def Oi(c:cg):=
 zg w λd w2=>NN c λa3=>qL w2 (a3.add 0) 2 λn=>0<=(4:Int)/\NN c λa5=>qZ w2 a5 6 λL=>zm CL #[Pv L,Iv (n.fdiv (2^(min (4:Int).toNat 64)))] w2 λM D E F G H I J=>zg J λe B=>qU [Iv M,Iv D,Iv E,Iv F,Iv G,.bool H] e B λC=>Dr (λa=>zR a e λg h i j k l=>cond I (NN c λa26=>qL a (a26.add 0) 2 λm=>qU [Iv g,Iv h,Iv i,Iv j,Iv k,.bool l] d a λb=>zH b (a26.add 0) 2 (Iv m) λN=>zR b d λo p q r s t=>K (.tuple #[Iv (n.fdiv (2^(min (4:Int).toNat 64))),.agg #[Iv o,Iv p,Iv q,Iv r,Iv s,.bool t],.bool (decide (m≥0))]) b) (qU [Iv g,Iv h,Iv i,Iv j,Iv k,.bool l] d a λf=>zR f d λu v x y z A=>K (.tuple #[Iv (n.fdiv (2^(min (4:Int).toNat 64))),.agg #[Iv u,Iv v,Iv x,Iv y,Iv z,.bool A],.bool false]) f)) C
def Oj(c:cg)(bH U V W X Y:Int)(Z:Bool):=
 Al (.cells #[Pv c] 91) (λd w2=>qC #[Iv bH] w2 λl aa=>zY #[Iv U,Iv V,Iv W,Iv X,Iv Y,.bool Z] aa λt ab=>∃s:Addr->Bool->bh6,(Dr (λa=>qb a d λm=>NN m λj=>qZ a j 6 λg=>qD a l λh=>(zy tB #[Pv g,Iv h] a λB C D E F u=>zu u λq e=>zG e l (Iv h) λae=>qG e j 6 (Pv g) λaf=>zo e d (Pv m) λag=>qU [Iv B,Iv C,.bool D,.bool E] q e λv=>s q F v)/\(zu a λr f=>zG f l (Iv h) λah=>qG f j 6 (Pv g) λai=>zo f d (Pv m) λaj=>zy tB #[Pv g,Iv h] f λG H I J L x=>qU [Iv G,Iv H,.bool I,.bool J] r x λy=>s r L y)) ab)/\(∀ad:Nat->Value,∀p:Addr,∀k:Bool,∀i:World,s p k i->cond k (qb i d λM=>qL i p 1 λN=>qp CM #[Pv M,Iv N] i λO P z=>K (.tuple #[Iv O,.bool P]) z) (qb i d λQ=>qp yJ #[Pv Q,(.func (.func CN) #[] #[Pv (some d),Pv (some t),Pv (some l)])] i λn o b=>cond o (qb b d λR=>qD b l λS=>qy b t 5 λT=>qE CO #[Pv R,Iv S,Iv n,Iv 2,.bool T] b λA=>K (.tuple #[Iv n,.bool o]) A) (K (.tuple #[Iv n,.bool o]) b)))) w
def Ol(s:cg)(bH:Int):=
 NN s λi=>qZ w i 1 λj=>zh tC #[Pv j,Iv bH] w λk b e=>cond b (Dr (λf=>NN s λc=>qZ f c 1 λh=>zU JA #[.int .u64 k] f λg a=>qG a c 1 (Pv h) λl=>qQ vB #[Pv h,Iv bH,.int .u64 g] a λm d=>K (.bool b) d) e) (K (.bool b) e)
def Om(b a:Addr):=
 qb w b λd=>qD w a λe=>qp Jg #[Pv d,Iv e] w λf g c=>K (.tuple #[Iv f,.bool g]) c
def On(c:cg)(bH:Int):=
 Al (.cells #[Pv c] 91) (λe w2=>∃N:Addr->Addr->bh6,(qb w2 e λaN=>NN aN λa9=>qZ w2 a9 6 λaa=>zy tB #[Pv aa,Iv bH] w2 λab ad ae af ag O=>zu O λy P=>Al (.cells #[.bool false] 4) (λz Q=>qU [Iv ab,Iv ad,.bool ae,.bool af] y Q λR=>St z (.bool ag) (λS=>N y z S) R) P)/\(∀aO:Nat->Value,∀j:Addr,∀d:Addr,∀U:World,N j d U->∃n:Addr->bh6,(Dr (λb=>qb b e λr=>NN r λo=>qZ b o 5 λs=>NN s λa32=>qZ b a32 0 λk=>qL b j 1 λl=>(qX rP #[Pv k,Iv l] b λah ai aj ak al am an ao ap aP T=>qV T λB g=>zH g j 1 (Iv l) λaQ=>qG g a32 0 (Pv k) λaR=>qG g o 5 (Pv s) λaS=>zo g e (Pv r) λaT=>qU [Iv ah,Iv ai,Iv aj,Iv ak,Iv al,Iv am,Iv an,.bool ao,.bool ap] B g λV=>n B V)/\(qV b λC h=>zH h j 1 (Iv l) λaU=>qG h a32 0 (Pv k) λaV=>qG h o 5 (Pv s) λaW=>zo h e (Pv r) λaX=>qX rP #[Pv k,Iv l] h λaq ar au av aw ax ay az aA aY W=>qU [Iv aq,Iv ar,Iv au,Iv av,Iv aw,Iv ax,Iv ay,.bool az,.bool aA] C W λX=>n C X)) U)/\(∀aL:Nat->Value,∀A:Addr,∀f:World,n A f->qh (λu=>qm f d λaC=>cond aC (qL f A 5 λaD=>u (decide (aD<=1)) f) (u false f)) λaB i=>cond aB (qb i e λaE=>qL i j 1 λaF=>qp CM #[Pv aE,Iv aF] i λaG aH Y=>K (.tuple #[Iv aG,.bool aH]) Y) (qb i e λaI=>qp yJ #[Pv aI,(.func (.func CQ) #[] #[Pv (some d),Pv (some e),Pv (some j)])] i λt m p=>qg (λv=>cond m (qb p e λaJ=>qE CO #[Pv aJ,Iv bH,Iv t,Iv 1,.bool true] p λZ=>v Z) (v p)) λq=>qh (λx=>cond m (qm q d λH=>x H q) (x false q)) λaK D=>cond aK (Dr (λa=>qb a e λI=>NN I λE=>qZ a E 5 λJ=>NN J λF=>qZ a F 0 λL=>qL a j 1 λM=>qQ vy #[Pv L,Iv M,Iv (-1)] a λaM G=>K (.tuple #[Iv t,.bool m]) G) D) (K (.tuple #[Iv t,.bool m]) D))))) w
variable{K w}
def ZO(bN bR bP)(h:NL K w bN bR bP):=bL {} #[Iv bN,Iv bR,Sv bP] K w Tryz.func17 h
def ZP(v)(h:NM K w v):=bL {} #[Pv v] K w Tryz.func18 h
def ZQ(v a b c e f)(h:NO K w v a b c e f):=bL {(z8 [14,29,33] [(1,[[1,2,0,3,4]],[0]),(4,[[1,2,4,5,6,0,3,7,8,9]],[0,7])]:dS)with dyn:=λd=>[18,42].contains d} #[Pv v,.agg #[Iv a,Iv b,Iv c,Iv e,Iv f]] K w Tryz.func21 h
def ZR(v)(h:NP K w v):=bL (z8 [11,13,20,32] [] [(3,[(3,.slice),(12,jZ)])] [(8,[])]) #[Pv v] K w Tryz.func23 h
def ZS(v pid)(h:NQ K w v pid):=bL (z8 [6,13,14] [] [] [(3,[])]) #[Pv v,Iv pid] K w Tryz.func24 h
def ZT(s)(h:NR K w s):=bL {} #[Pv s] K w Tryz.func27 h
def ZU(bN bR bP l)(h:NS K w bN bR bP l):=bL (z8 [18,20,29] [] [(4,[(10,.slice),(19,jZ)])]) #[Iv bN,Iv bR,Sv bP,Sv l] K w Tryz.func29 h
def ZV(h:ZM K w):=bL {} #[] K w Tryz.func36 h
def ZW(h:ZN K w):=bL {} #[] K w Tryz.func37 h
def ZX(s)(h:NT K w s):=bL {} #[Pv s] K w Tryz.func38 h
def ZY(s a b)(h:NU K w s a b):=bL (z8 [19,21,35] [] [(3,[(7,.slice),(20,jZ)])]) #[Pv s,Iv a,Iv b] K w Tryz.func40 h
def ZZ(v a b c d e)(h:NV K w v a b c d e):=bL (z8 [19] [(1,[jQ 12],[6])]) #[Pv v,.agg #[Iv a,Iv b,Iv c,Iv d,Iv e]] K w Tryz.func51 h
def Z0(v a b c d e)(h:NW K w v a b c d e):=bL (z8 [10,25,27,34,41,44] [(1,[[0,1,2,3,4,5,6,7,9,10,8,11,12,13]],[8,11]),(8,[jQ 9],[6,8])] [(3,[(26,jZ)])] [(2,[(5,.bool)])]) #[Pv v,.agg #[Iv a,Iv b,Iv c,Iv d,Iv e]] K w Tryz.func52 h
def Z1(v a b c d e)(h:NX K w v a b c d e):=bL (z8 [] [(1,[jQ 13],[10,12])]) #[Pv v,.agg #[Iv a,Iv b,Iv c,Iv d,Iv e]] K w Tryz.func53 h
def Z2(v a b c d e)(h:NY K w v a b c d e):=bL (z8 [21,22] [(1,[[0,1,2,3,5,6,4,7,8,9]],[4,7]),(5,[jQ 6],[3,4,5])]) #[Pv v,.agg #[Iv a,Iv b,Iv c,Iv d,Iv e]] K w Tryz.func54 h
def Z3(v a b c d e)(h:NZ K w v a b c d e):=bL (z8 [] [(1,[jQ 9],[6,8])]) #[Pv v,.agg #[Iv a,Iv b,Iv c,Iv d,Iv e]] K w Tryz.func55 h
def Z4(v a b c d e)(h:N0 K w v a b c d e):=bL (z8 [] [(1,[jQ 11],[8,10])]) #[Pv v,.agg #[Iv a,Iv b,Iv c,Iv d,Iv e]] K w Tryz.func56 h
def Z5(c)(h:N1 K w c):=bL (z8 [] [(0,[[0,1,2,3,4,5,6,8,9,10,11,12,7,13,14]],[7,13]),(2,[jQ 20],[19])]) #[Pv c] K w Tryz.func57 h
def Z6(c)(h:N2 K w c):=bL (z8 [] [(0,[jQ 10],[9])]) #[Pv c] K w Tryz.func58 h
def Z7(c)(h:N3 K w c):=bL (z8 [24] [(1,[jQ 27],[22,26])]) #[Pv c] K w Tryz.func59 h
def Z8(c)(h:N4 K w c):=bL (z8 [10,25,46,72] [(1,[jQ 43],[19,40]),(3,[jQ 32],[27,31])] [] [(3,[])]) #[Pv c] K w Tryz.func60 h
def Z9(c)(h:N5 K w c):=bL (z8 [24,34] [(1,[jQ 22],[20])]) #[Pv c] K w Tryz.func61 h
def ayw(c)(h:N6 K w c):=bL (z8 [36,61,73] [(7,[jQ 20],[14])] [] [(5,[])]) #[Pv c] K w Tryz.func62 h
def aw6(c)(h:N7 K w c):=bL {(z8 [20,27,53,57,78,84] [(14,[jQ 21],[20]),(15,[jQ 6],[5])] [] [(3,[(14,.bool)]),(8,[]),(12,[(5,.raw)])]:dS)with dyn:=λd=>[61].contains d} #[Pv c] K w Tryz.func63 h
def ayu(c)(h:N8 K w c):=bL (z8 [12,13,25,27,39] [(8,[jQ 25],[21,24])] [(4,[(26,jZ)])]) #[Pv c] K w Tryz.func64 h
def atB(t)(h:N9 K w t):=bL (z8 [6]) #[Pv t] K w Tryz.func65 h
def tY:dS:={quiet:=λd=>[14,17].contains d,brk:=some 0}
def Eh:Nat->Bool:=λd=>[].contains d
def asC(t:cg)(a b:Int)(K:bh7)(w:World):mV P fD gG cz tY Eh Go.Proofs.Tryz.f68 #[(.pointer t),(.int .i64 a),(.int .i64 b)] K w=Eg K w t a b:=by kernel_rfl
def asx:mW P tY Go.Proofs.Tryz.f68 3=true:=by kernel_rfl
def ass(t:cg)(a b:Int){K:bh7}{w:World}(h:Eg K w t a b):Calls P yB #[(Pv t),(Iv a),(Iv b)] w (bW K):=oh mixed Go.Proofs.Tryz.func68 asx (by rw[asC];exact h)
def Oo(m n g:Addr)(b:Int)(c:Nat)(w:World)(R:Ending->bh6):Prop:=
 kU c (λa=>qD a n λj=>cond (decide (b≥j)) (e0 c (some (.exit 0)) R a) (qD a m λk=>cond (decide (b≥k)) (qc a g λl=>qC #[Iv b] a λf h=>∃e:Sl,∃d:World,Sem.run P (Builtin.append_ #[22,22] 22 #[Sv l,.slice (some f) 1 1]) h=.ok (Sv e) d/\St g (Sv e) (λi=>e0 c none R i) d) (e0 c none R a))) w
def ary(t:cg)(a g:Int)(d e f:Addr)(b:Int)(c:Nat)(w:World)(R:Ending->bh6):ma P fD gG cz tY Eh 23 c (jO Go.Proofs.Tryz.f68.body) (jP Go.Proofs.Tryz.f68.body) (kW [(11,.int .i64 b)] (((((((iQ [(.pointer t),(.int .i64 a),(.int .i64 g)] 0 .nil).put (some 4) (.pointer (some d))).put (some 5) (.pointer (some e))).put (some 6) (.slice none 0 0)).put (some 7) (.pointer (some f))).put (some 9) (.pointer t)).put (some 10) (.func (.func oo) #[(.pointer t)] #[]))) w R=Oo d e f b c w R:=by kernel_rfl
def arv:gF P 23 tY (jO Go.Proofs.Tryz.f68.body)=true/\gF P 23 tY (jP Go.Proofs.Tryz.f68.body)=true:=⟨by kernel_rfl,by kernel_rfl⟩
def arh(s bH)(h:Oa K w s bH):=bL {} #[Pv s,Iv bH] K w Tryz.func69 h
def aCE(v group s)(h:Ob K w v group s):=bL (z8 [23,24]) #[Pv v,Iv group,Pv s] K w Tryz.func82 h
def aCD(h:Oc K w):=bL {} #[] K w Tryz.func83 h
def aA9(v pid)(h:Od K w v pid):=bL {} #[Pv v,Iv pid] K w Tryz.func86 h
def aw5(c)(h:Oe K w c):=bL {} #[Pv c] K w Tryz.func87 h
def atJ(s a b c d e f)(h:Of K w s a b c d e f):=bL (z8 [17] [(1,[jQ 11],[5])]) #[Pv s,.agg #[Iv a,Iv b,Iv c,Iv d,Iv e,.bool f]] K w Tryz.func88 h
def atH(s a b)(h:Og K w s a b):=bL (z8 [21,23,32] [] [(3,[(22,jZ)])]) #[Pv s,Iv a,Iv b] K w Tryz.func91 h
def azC(v ids)(h:Oh K w v ids):=bL (z8 [7,9,18] [] [(1,[(8,jZ)])]) #[Pv v,Sv ids] K w Tryz.func92 h
def aw9(c)(h:Oi K w c):=bL (z8 [13,32] [(3,[jQ 14],[12])]) #[Pv c] K w Tryz.func93 h
def aw7(c bH a b d e f g)(h:Oj K w c bH a b d e f g):=bL (z8 [] [(1,[jQ 12,[0,1,2,3,4,9,5,6,7,8,10,11]],[5,9,10])] [] [(2,[(8,.addr),(9,.bool)])]) #[Pv c,Iv bH,.agg #[Iv a,Iv b,Iv d,Iv e,Iv f,.bool g]] K w Tryz.func94 h
def ari(s bH)(h:Ol K w s bH):=bL (z8 [] [(3,[jQ 8],[6,7])]) #[Pv s,Iv bH] K w Tryz.func96 h
def atU(b a)(h:Om K w b a):=bL {} #[Pv (some b),Pv (some a)] K w Tryz.func97 h
def azF(c bH)(h:On K w c bH):=bL (z8 [38] [(2,[jQ 16,[0,1,2,3,4,5,6,7,8,13,9,10,11,12,14,15]],[9,13,14]),(9,[jQ 10],[9])] [] [(2,[(6,.addr),(7,.addr)]),(3,[(8,.addr)]),(4,[(39,.bool)]),(8,[]),(9,[(60,.bool)])]) #[Pv c,Iv bH] K w Tryz.func98 h
end Go.Mp
