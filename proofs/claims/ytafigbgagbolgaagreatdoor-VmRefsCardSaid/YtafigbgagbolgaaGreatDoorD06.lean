/- A part of the proof. -/
import Derived.Test.YtafigbgagbolgaaGreatDoorD05
import Derived.Lib.TrailingZeros
import Derived.ProofKit
import Derived.OpenVars
import Derived.Shelf.SlIterI.Nil
import Derived.Shelf.SortM.Plain
import Derived.Shelf.SortM.SortNone
set_option linter.all false
set_option maxRecDepth 100000
open Go.IntKind(i64 u64)
open Go.Proofs.Tryz
namespace Go.Kc
open Go Go.Vc
def nX(n:Int):u64.wrap n=n%18446744073709551616:=by
 unfold IntKind.wrap;simp[IntKind.signed,IntKind.bits]
def dA{n:Nat}(h:n<18446744073709551616:=by omega):u64.wrap (n:Int)=(n:Int):=by rw[nX];omega
def Em(n:Nat):u64.wrap (n:Int)=((n%18446744073709551616:Nat):Int):=by rw[nX];omega
def qq(a:Nat)(h:a<18446744073709551616):(BitVec.ofInt 64 (a:Int)).toNat=a:=by
 rw[rl,uG];exact mZ bu
def tA{a b:Nat}(c:a<18446744073709551616)(hb:b<18446744073709551616):dy .u64 (a:Int) (b:Int)=((a &&& b:Nat):Int):=by
 show u64.wrap ((BitVec.ofInt 64 (a:Int) &&& BitVec.ofInt 64 (b:Int)).toNat:Int)=_;rw[xB,qq a c,qq b hb];exact dA (Nat.and_lt_two_pow (n:=64) _ hb)
def vT{a b:Nat}(c:a<18446744073709551616)(hb:b<18446744073709551616):ji .u64 (a:Int) (b:Int)=((a ||| b:Nat):Int):=by
 show u64.wrap ((BitVec.ofInt 64 (a:Int) ||| BitVec.ofInt 64 (b:Int)).toNat:Int)=_;rw[BitVec.toNat_or,qq a c,qq b hb];exact dA (Nat.or_lt_two_pow (n:=64) c hb)
def ZI{a b:Nat}(c:a<18446744073709551616)(hb:b<18446744073709551616):oW .u64 (a:Int) (b:Int)=((a ^^^ b:Nat):Int):=by
 show u64.wrap ((BitVec.ofInt 64 (a:Int) ^^^ BitVec.ofInt 64 (b:Int)).toNat:Int)=_;rw[BitVec.toNat_xor,qq a c,qq b hb];exact dA (Hj (n:=64) c hb)
def ZJ{a:Nat}(b:a<18446744073709551616):oX .u64 (a:Int)=((18446744073709551615 ^^^ a:Nat):Int):=by
 show u64.wrap ((BitVec.ofInt 64 ((18446744073709551615:Nat):Int) ^^^ BitVec.ofInt 64 (a:Int)).toNat:Int)=_;rw[BitVec.toNat_xor,qq a b,qq _ bu];exact dA (Hj (n:=64) bu b)
def sh(n k:Nat):(n:Int).fdiv (2^k)=((n/2^k:Nat):Int):=by
 rw[Ub _ (by exact_mod_cast dX (2^k))]
 exact_mod_cast rfl
def wd:bA Bool->Nat
 |[]=>0
 |b::r=>b.toNat+2*wd r
def zv:∀(l:bA Bool) (k:Nat),(wd l).testBit k=l.getD k false
 |[],k=>by simp[wd]
 |b::r,0=>by
  unfold wd;rw[Nat.testBit_zero];cases b<;>simp
 |b::r,k+1=>by
  unfold wd;rw[Nat.testBit_succ,show(b.toNat+2*wd r)/2=wd r by cases b<;>simp<;>omega,zv r k];simp
def NZ:∀(l:bA Bool),wd l<2^l.length
 |[]=>by simp[wd]
 |b::r=>by
  have:=NZ r;unfold wd;rw[hN,ry];have:b.toNat<=1:=by cases b<;>simp
  omega
def ZK{l:bA Bool}(h:l.length<=64):wd l<18446744073709551616:=
 lr (NZ l) (uD bN h)
def ZL{l:bA Bool}{k:Nat}:wd l &&& 2^k=if l.getD k false then 2^k else 0:=by
 rw[<- zv];apply xt;intro i;rw[Nat.testBit_and,sE];by_cases e:k=i
 ·subst e;cases h:(wd l).testBit k<;>simp
 ·rw[dq e,sH];split;·rw[sE,dq e]
  ·simp
def ZM{y:Nat}(a:y≠0)(h:y<18446744073709551616):Lib.ctz 64 y<64/\y.testBit (Lib.ctz 64 y)=true/\∀i,i<Lib.ctz 64 y->y.testBit i=false:=by
 unfold Lib.ctz;rw[bJ a];obtain⟨m,hm,hl⟩:=Lib.ctzFrom_spec 64 y bu (by simpa using h);generalize Lib.ctzFrom 64 y=c at*
 refine⟨hl,?_,λi b=>?_⟩;·rw[hm,Nat.testBit_two_pow_mul];simp
 ·rw[hm,Nat.testBit_two_pow_mul];simp;omega
def ZN{a i:Nat}(b:i<64):(18446744073709551615 ^^^ a).testBit i= !a.testBit i:=by
 rw[Nat.testBit_xor,show(18446744073709551615:Nat)=2^64-1 by decide,Nat.testBit_two_pow_sub_one,dK b];cases a.testBit i<;>rfl
def ZO(x a:Nat)(hx:x<18446744073709551616)(d:x≠0)(b:x &&& (18446744073709551616-x)=a):
  (u64.wrap ((dy .u64 (x:Int) (u64.wrap (0-(x:Int))))*285870213051353865)).fdiv (2^(min (58:Int).toNat 64))=((a*285870213051353865%18446744073709551616/288230376151711744:Nat):Int):=by
 have c:u64.wrap (0-(x:Int))=((18446744073709551616-x:Nat):Int):=by rw[nX];omega
 rw[c,tA hx bu,b,show((a:Int)*285870213051353865)=((a*285870213051353865:Nat):Int) by omega,Em];exact sh _ 58
end Go.Kc
namespace Go.Sp
open Go Go.Vc
section
variable{E:Env}{L:cr}{w:bI}{P:cS}
def Sep.putObj{b:Nat}{o o':Obj}(h:Sep E (da b o::L) w):Sep E (da b o'::L) (w.putObj b o'):=by
 have hb:=h.dw;have c:b<w.heap.size:=(pG.1 hb).1;refine h.change (A':=da b o') rfl (by simp) (λF a hl=>⟨λx _ d=>?_,F,⟨?_,a.2⟩,λx hx=>⟨?_,.inl hx⟩⟩);·exact World.putObj_heap_other (λe=>d ((a.2 x).2 e))
 ·exact World.putObj_heap_same c
 ·simpa using hl x hx
def lI.i{l:Nat}{r:Loop}{f:bi9}(h:Sep E (da l (.loop r)::L) w)(hr:r.state=.ready)(k:∀a,Sep E (da l (.loop {r with state:=.busy})::L) a->f a):lI l f w:=
 ⟨r,h.dw,hr,k _ h.putObj⟩
def fg.i{l:Nat}{r:Loop}{j:bX Code}{R:Ending->bi9}(h:Sep E (da l (.loop r)::L) w)(k:∀a,Sep E (da l (.loop {r with state:=if j.isNone then .ready else .done,pending:=j})::L) a->R (.returned (.bool j.isNone)) a):fg l j R w:=
 ⟨r,h.dw,k _ h.putObj⟩
def Eo(P:cS)(E:Env)(f:bj6)(b:bH->cf bH)(A A' S:Asn)(xs:bA bH):Prop:=
 ∀(l:Nat) (J X:Nat->Asn),(∀L k x W,xs[k]?=some x->Sep E (J k::S::L) W->YieldAt Fence.wide 0 P l #[x] W (λe a=>
   (e=.returned (.bool true)/\Sep E (J (k+1)::S::L) a)\/(e=.returned (.bool false)/\Sep E (X k::S::L) a)))->
  ∀L W,Sep E (J 0::S::A::L) W->Calls P f (b (.func (.yield l) #[] #[])) W (λe a=>(∃v,e=.returned v)/\(Sep E (J xs.length::S::A'::L) a\/∃k,k<xs.length/\Sep E (X k::S::A'::L) a))
def iJ.Ep{τ:bZ->K1}{ρ:bZ->Kd}{cD:bj6->Bool}{An:dU}{yl:Nat->Bool}{N p:Nat}{f:bj6}{fi ca:cf bH}{H:bH->cf bH}{A A' S:Asn}{xs:bA bH}{a body c:Code}{T:Tr}{done ret:Nat->bi9}(K:∀y,H y=fi++ #[y]++ca)(hm:P.follows .mixedOrders=true)(V:N<=8000)(hp:p<N)(q:gY P N An a=true/\gY P N An body=true)(hf:k6 P f=true)(Z:Eo P E f H A A' S xs)(g D:Nat->Asn)(m:∀(l:Nat) (r:Loop) L k x W R,r.state=.ready->r.pending=none->xs[k]?=some x->Sep E (da l (.loop r)::g k::S::L) W->(∀d,Sep E (da l (.loop r)::g (k+1)::S::L) d->R (.returned (.bool true)) d)->
   (∀d,Sep E (da l (.loop {r with state:=.done,pending:=some c})::D k::S::L) d->R (.returned (.bool false)) d)->mM P τ ρ cD An yl N l a body (lK [(p,x)] T) W R)(h:Sep E (g 0::S::A::L) w)(n:∀b W,Sep E (da b (.deferred (some []))::g xs.length::S::A'::L) W->done b W)(F:∀b k W,k<xs.length->Sep E (da b (.deferred (some []))::D k::S::A'::L) W->ret b W):iJ P N (.func (.func f) fi ca) #[p] a body c T w done ret:=by
 refine⟨f,fi,ca,_,rfl,K _,hf,λfn G M Q=>?_⟩;have h1:=h.nQ (.deferred (some []));have h2:=h1.nQ (.loop (te fn G #[p] a body w.heap.size));rw[size_alloc]at h2;generalize hr:te fn G #[p] a body w.heap.size=r at h2 ⊢;have s:r.state=.ready:=by rw[<- hr];rfl
 have u:r.pending=none:=by rw[<- hr];rfl
 have j:r.params= #[p]:=by rw[<- hr];rfl
 have z:r.tmps=G:=by rw[<- hr];rfl
 have B:r.assign=a:=by rw[<- hr];rfl
 have C:r.body=body:=by rw[<- hr];rfl
 generalize w.heap.size=b at h2 ⊢;have U:Sep E (star (da (b+1) (.loop r)) (star (da b (.deferred (some []))) (g 0))::S::A::L) ((w.alloc (.deferred (some []))).alloc (.loop r)):=
  Sep.star.2 ((Sep.star.2 ((h2.ro 3 [1,2,0] rfl))).swap)
 refine Calls.mono (Z (b+1) (λk=>star (da (b+1) (.loop r)) (star (da b (.deferred (some []))) (g k))) (λk=>star (da (b+1) (.loop {r with state:=.done,pending:=some c})) (star (da b (.deferred (some []))) (D k)))
  (λL' k x W hx Y=>?_) L _ U) (λe d he=>?_)
 ·have J:=Sep.star.1 ((Sep.star.1 Y).swap);have o:Sep E (da (b+1) (.loop r)::g k::S::da b (.deferred (some []))::L') W:=J.ro 4 [2,1,3,0] rfl;refine Wl (τ:=τ) (ρ:=ρ) (cD:=cD) (A:=An) (yl:=yl) (N:=N) (T:=T) hm V o.dw (by rw[j];rfl) (by rw[z];exact M) (by rw[z];exact Q) (λt O=>?_) (by rw[B];exact q.1) (by rw[C];exact q.2) ?_
  ·rw[j]at O;have:t=p:=by simpa using O
   rw[this];exact hp
  ·have aa:(r.params.zip #[x]).toList= [(p,x)]:=by rw[j,Array.toList_zip];rfl
   have key:∀R,mM P τ ρ cD An yl N (b+1) a body (lK [(p,x)] T) W R->mM P τ ρ cD An yl N (b+1) r.assign r.body (lK (r.params.zip #[x]).toList T) W R:=by
    intro R X;rw[aa,B,C];exact X
   refine key _ (m (b+1) r _ k x W _ s u hx o (λd h'=>.inl ⟨rfl,?_⟩) (λd h'=>.inr ⟨rfl,?_⟩));·exact Sep.star.2 ((Sep.star.2 (h'.ro 4 [3,1,0,2] rfl)).swap)
   ·exact Sep.star.2 ((Sep.star.2 (h'.ro 4 [3,1,0,2] rfl)).swap)
 ·obtain⟨⟨v,rfl⟩,he⟩:=he;rcases he with he|⟨k,hk,he⟩
  ·have i:=Sep.star.1 he;refine⟨r,i.dw,by rw[s];simp,?_⟩;have I:=(i.putObj (o':=.loop {r with state:=.exhausted})).tail;generalize d.putObj (b+1) (.loop {r with state:=.exhausted})=ab at I ⊢;rw[u];exact n _ _ (Sep.star.1 I)
  ·have i:=Sep.star.1 he;exact⟨_,i.dw,by simp,rfl,F _ k _ hk (Sep.star.1 (i.putObj).tail)⟩
def zE(P:cS)(E:Env)(f:bj6)(b:bH->cf bH)(A A':Asn)(xs:bA bH):Prop:=
 ∀(l:Nat) (J X:Nat->Asn),(∀L k x W,xs[k]?=some x->Sep E (J k::L) W->YieldAt Fence.wide 0 P l #[x] W (λe a=>
   (e=.returned (.bool true)/\Sep E (J (k+1)::L) a)\/(e=.returned (.bool false)/\Sep E (X k::L) a)))->
  ∀L W,Sep E (J 0::A::L) W->Calls P f (b (.func (.yield l) #[] #[])) W (λe a=>(∃v,e=.returned v)/\(Sep E (J xs.length::A'::L) a\/∃k,k<xs.length/\Sep E (X k::A'::L) a))
abbrev Er(P:cS)(E:Env)(f:bj6)(ca:cf bH)(A A':Asn)(xs:bA bH):Prop:=zE P E f (λy=> #[y]++ca) A A' xs
def iJ.iO{τ:bZ->K1}{ρ:bZ->Kd}{cD:bj6->Bool}{An:dU}{yl:Nat->Bool}{N p:Nat}{f:bj6}{fi ca:cf bH}{t:bH->cf bH}{A A':Asn}{xs:bA bH}{j body c:Code}{T:Tr}{done ret:Nat->bi9}(has:∀y,t y=fi++ #[y]++ca)(hm:P.follows .mixedOrders=true)(D:N<=8000)(hp:p<N)(u:gY P N An j=true/\gY P N An body=true)(hf:k6 P f=true)(G:zE P E f t A A' xs)(a o:Nat->Asn)(m:∀(l:Nat) (r:Loop) L k x W R,r.state=.ready->r.pending=none->xs[k]?=some x->Sep E (da l (.loop r)::a k::L) W->(∀i,Sep E (da l (.loop r)::a (k+1)::L) i->R (.returned (.bool true)) i)->
   (∀i,Sep E (da l (.loop {r with state:=.done,pending:=some c})::o k::L) i->R (.returned (.bool false)) i)->mM P τ ρ cD An yl N l j body (lK [(p,x)] T) W R)(h:Sep E (a 0::A::L) w)(n:∀b W,Sep E (da b (.deferred (some []))::a xs.length::A'::L) W->done b W)(s:∀b k W,k<xs.length->Sep E (da b (.deferred (some []))::o k::A'::L) W->ret b W):iJ P N (.func (.func f) fi ca) #[p] j body c T w done ret:=
 iJ.Ep (S:=emp) (A:=A) (A':=A') (xs:=xs) has hm D hp u hf
  (λl J X F L W h=>(G l J X (λL k x W hx h=>(F L k x W hx (Sep.emp.2 h).swap).imp λ_ ⟨b,c,d,e,g⟩=>⟨b,c,d,e,g.mono λ_ _ he=>he.imp (λq=>⟨q.1,Sep.emp.1 q.2.swap⟩) (λq=>⟨q.1,Sep.emp.1 q.2.swap⟩)⟩) L W (Sep.emp.1 h.swap)).mono
   λ_ _ he=>⟨he.1,he.2.imp (λq=>(Sep.emp.2 q).swap) (λ⟨k,hk,q⟩=>⟨k,hk,(Sep.emp.2 q).swap⟩)⟩)
  a o (λl r L k x W R h1 h2 v z B C=>m l r (emp::L) k x W R h1 h2 v z B C) (Sep.emp.2 h).swap (λb W q=>n b W (q.ro 3 [0,1] rfl)) (λb k W hk q=>s b k W hk (q.ro 3 [0,1] rfl))
def iJ.i{τ:bZ->K1}{ρ:bZ->Kd}{cD:bj6->Bool}{An:dU}{yl:Nat->Bool}{N p:Nat}{f:bj6}{ca:cf bH}{A A':Asn}{xs:bA bH}{e body c:Code}{T:Tr}{done ret:Nat->bi9}(hm:P.follows .mixedOrders=true)(o:N<=8000)(hp:p<N)(n:gY P N An e=true/\gY P N An body=true)(hf:k6 P f=true)(q:Er P E f ca A A' xs)(a j:Nat->Asn)(g:∀(l:Nat) (r:Loop) L k x W R,r.state=.ready->r.pending=none->xs[k]?=some x->Sep E (da l (.loop r)::a k::L) W->(∀d,Sep E (da l (.loop r)::a (k+1)::L) d->R (.returned (.bool true)) d)->
   (∀d,Sep E (da l (.loop {r with state:=.done,pending:=some c})::j k::L) d->R (.returned (.bool false)) d)->mM P τ ρ cD An yl N l e body (lK [(p,x)] T) W R)(h:Sep E (a 0::A::L) w)(i:∀b W,Sep E (da b (.deferred (some []))::a xs.length::A'::L) W->done b W)(m:∀b k W,k<xs.length->Sep E (da b (.deferred (some []))::j k::A'::L) W->ret b W):iJ P N (.func (.func f) #[] ca) #[p] e body c T w done ret:=
 iJ.iO (fi:= #[]) (λy=>by simp) hm o hp n hf q a j g h i m
end
end Go.Sp
namespace Go.Sp
open Go Go.Vc Go.RowKit Go.ChangeShapes
def Rd(P:cS)(W:bI)(t:bZ)(cs:bA bH):Prop:=
 ∃(H:Type) (enc:bZ×bH->H) (fuel:Nat) (x:DataW H×bA MemPlace),DataW.trod enc P W 0 (λ_=>true) true fuel t cs=some x
section
variable{P:cS}{W:bI}{t:bZ}{cs:bA bH}
def Rd.int{k:IntKind}(h:Rd P W t cs)(a:P.underlying t=some (.int k)):∃n,cs= [.int k n]/\(Lit.int k n).wf=true:=by
 obtain⟨H,enc,fuel,x,h⟩:=h;obtain⟨n,h1,_,h2⟩:=DataW.trod_int a h;exact⟨n,h1,h2⟩
def Rd.bool(h:Rd P W t cs)(a:P.underlying t=some .bool):∃b,cs= [.bool b]:=by
 obtain⟨H,enc,fuel,x,h⟩:=h;obtain⟨n,h1,_⟩:=DataW.trod_bool a h;exact⟨n,h1⟩
def Rd.str(h:Rd P W t cs)(a:P.underlying t=some .string):∃s,cs= [.string s]/\s.size<=maxLen:=by
 obtain⟨H,enc,fuel,x,h⟩:=h;obtain⟨s,h1,_,h2⟩:=DataW.trod_string a h;exact⟨s,h1,h2⟩
def Rd.slice{e:bZ}(h:Rd P W t cs)(g:P.underlying t=some (.slice e)):∃(p:cm) (n c:Nat),cs= [.slice p n c]/\n<=c/\c<=maxLen/\
  ∀i,i<n->∃a es,p=some a/\es.length=P.cellsOf e/\(∀j,j<P.cellsOf e->W.cell? ((a.add (i*P.cellsOf e)).add j)=es[j]?)/\Rd P W e es:=by
 obtain⟨H,enc,fuel,x,h⟩:=h;rcases DataW.trod_slice g h with⟨rfl,rfl⟩|⟨a,len,cap,elems,rest,n,rfl,rfl,rfl,_,h1,h2,k,d,_⟩
 ·exact⟨none,0,0,rfl,ec _,dX _,λi b=>bu⟩
 ·refine⟨some a,len,cap,rfl,h1,h2,λi b=>?_⟩;have:=d i b;rw[du]at this;obtain⟨es,he,hr⟩:=Option.bind_eq_some_iff.1 this;obtain⟨_,hl,f⟩:=World.cells?_some he;exact⟨a,es,rfl,hl,f,H,enc,n,_,hr⟩
def Rd.struct{fs:cf Field}(h:Rd P W t cs)(c:P.underlying t=some (.struct fs)):cs.length=P.cellsOf t/\
  ∀(i:Nat) (f:Field),fs[i]?=some f->Rd P W f.type ((cs.drop f.offset).take (P.cellsOf f.type)):=by
 obtain⟨H,enc,fuel,x,h⟩:=h;obtain⟨xs,n,rfl,rfl,hl,hx,hf⟩:=DataW.trod_struct c h;refine⟨hl,λi f a=>?_⟩;have b:i<xs.length:=by
  rw[hx];rcases hE i fs.size with h' | h';·exact h'
  ·simp[h']at a
 have:=hf i f a;rw[ea b]at this;exact⟨H,enc,n,_,this⟩
def Rd.jy{k:IntKind}{v:bH}(h:Rd P W t [v])(a:P.underlying t=some (.int k)):∃n,v=.int k n/\(Lit.int k n).wf=true:=by
 obtain⟨n,h1,h2⟩:=h.int a;exact⟨n,by simpa using h1,h2⟩
def Rd.u8{v:bH}(h:Rd P W t [v])(a:P.underlying t=some (.int .u8)):∃n:UInt8,v=.int .u8 n.toNat:=by
 obtain⟨n,h1,h2⟩:=h.jy a;have:0<=n/\n<=255:=by simpa[Lit.wf,IntKind.has,IntKind.min,IntKind.max,IntKind.signed,IntKind.bits]using h2
 refine⟨n.toNat.toUInt8,?_⟩;have e:(n.toNat.toUInt8.toNat:Int)=n:=by
  show((n.toNat%2^8:Nat):Int)=n;omega
 rw[e];exact h1
def Rd.nY{e:bZ}{v:bH}(h:Rd P W t [v])(b:P.underlying t=some (.slice e)):∃(p:cm) (n c:Nat),v=.slice p n c/\n<=c/\c<=maxLen/\
  ∀i,i<n->∃a es,p=some a/\es.length=P.cellsOf e/\(∀j,j<P.cellsOf e->W.cell? ((a.add (i*P.cellsOf e)).add j)=es[j]?)/\Rd P W e es:=by
 obtain⟨p,n,c,h1,h2⟩:=h.slice b;exact⟨p,n,c,by simpa using h1,h2⟩
def N0{r:Reach}{base:Nat}{v:bH}(h:Value.okWide P W r base t v)(hp:eB P t=some false):v.cells.toList= [v]:=by
 cases v with
 |agg cs=>
  exfalso;unfold eB at hp;cases hu:P.underlying t with
  |none=>simp[hu]at hp
  |some d=>cases d<;>simp[Value.okWide,Cell.okWide,Cell.ok,hu]at h hp
 |_=>rfl
end
section
variable{H:Type}{enc:bZ×bH->H}{P:cS}
def Es:∀ {ts:bA bZ} {vs:bA bH} {a:bA (DataW H)} {ps:bA MemPlace} {w:bI} {b:Nat} {sp:Nat->Bool} {c:Bool},DataW.TrodAll enc P w b sp c ts vs a ps->vs.length=ts.length/\a.length=ts.length
 |[],[],[],_,_,_,_,_,_=>⟨rfl,rfl⟩
 |_::_,_::_,_::_,_,_,_,_,_,⟨_,_,_,h,_⟩=>by have:=Es h;simp[this]
 |[],_::_,_,_,_,_,_,_,h=>h.elim
 |[],[],_::_,_,_,_,_,_,h=>h.elim
 |_::_,[],_,_,_,_,_,_,h=>h.elim
 |_::_,_::_,[],_,_,_,_,_,h=>h.elim
def N1:∀ {ts:bA bZ} {vs:bA bH} {c:bA (DataW H)} {ps:bA MemPlace} {w:bI},DataW.TrodAll enc P w 0 (λ_=>true) true ts vs c ps->
  ∀(j:Nat) t v,ts[j]?=some t->vs[j]?=some v->Rd P w t v.cells.toList
 |[],[],[],_,_,_,j,_,_,h,_=>by simp at h
 |_::_,_::_,_::_,_,_,⟨_,_,⟨fuel,h1⟩,h2,_⟩,0,_,_,a,b=>by
  simp only[k1,fT]at a b;subst a b;exact⟨H,enc,fuel,_,h1⟩
 |_::_,_::_,_::_,_,_,⟨_,_,_,h2,_⟩,j+1,t,v,a,b=>N1 h2 j t v (by simpa using a) (by simpa using b)
 |[],_::_,_,_,_,h,_,_,_,_,_=>h.elim
 |[],[],_::_,_,_,h,_,_,_,_,_=>h.elim
 |_::_,[],_,_,_,h,_,_,_,_,_=>h.elim
 |_::_,_::_,[],_,_,h,_,_,_,_,_=>h.elim
def N2(hl:laidOutB P=true){W c:bI}(hb:Below W.heap.size W c):∀ {ts:bA bZ} {vs:bA bH} {d:bA (DataW H)} {ps:bA MemPlace},(ts.all λt=>P.readableRec t&&Nat.blt t P.types.size)=true->
  (∀x∈ps,x.block<W.heap.size)->DataW.TrodAll enc P W 0 (λ_=>true) true ts vs d ps->DataW.TrodAll enc P c 0 (λb=>decide (b<W.heap.size)) true ts vs d ps
 |[],[],[],_,_,_,h=>h
 |t::ts,_::_,_::_,_,hr,a,⟨p,q,h1,h2,e⟩=>by
  subst e;simp only[Bl,dF]at hr;exact⟨p,q,Below.trod hl hr.1.1 (by simpa using hr.1.2) h1 hb (λx hx=>a x (by simp[hx])),N2 hl hb hr.2 (λx hx=>a x (by simp[hx])) h2,rfl⟩
 |[],_::_,_,_,_,_,h=>h.elim
 |[],[],_::_,_,_,_,h=>h.elim
 |_::_,[],_,_,_,_,h=>h.elim
 |_::_,_::_,[],_,_,_,h=>h.elim
def ZP(hl:laidOutB P=true){f:Func}{s:ChangeSpec}{apart fresh handsOn:Bool}{W l:bI}{args:cf bH}{a gs:bA (DataW H)}{before:bA MemPlace}{tb:bZ}(e:(f.params.toList.all λt=>P.readableRec t&&Nat.blt t P.types.size)=true)(j:varsRowed P s.vars=true)(b:f.resultTypes.toList= [tb])(w:P.underlying tb=some .bool)(i:a.length=f.params.size->gs.length=s.vars.length->s.fn H (a++gs)= {results:=[.lit (.bool true)],args:=a,vars:=gs})(r:DataW.Whole enc P f.params.toList s.vars apart W args.toList a gs before)(hb:Below W.heap.size W l):s.post enc P f apart fresh handsOn false W args (.bool true) l:=by
 have k:=r;obtain⟨p,q,m,o,rfl,z,A⟩:=r;have v:∀x∈p++q,x.block<W.heap.size:=λx hx=>k.lt x hx;have hlen:=Es m;have u:gs.length=s.vars.length:=by
  have go:∀ {d:bA String} {gs:bA (DataW H)} {ps:bA MemPlace},DataW.TrodVars enc P W (λ_=>true) d gs ps->gs.length=d.length:=by
   intro d;induction d with
   |nil=>intro gs ps h;cases gs with
    |nil=>rfl
    |cons _ _=>exact h.elim
   |cons n d y=>intro gs ps h;cases gs with
    |nil=>exact h.elim
    |cons g gs=>
     obtain⟨_,_,_,_,_,_,_,_,_,_,h,_⟩:=h;simp[y h]
  exact go o
 have c:=i (by simpa using hlen.2) u;refine⟨a,gs,p++q,[],p,q,k,?_,?_,?_,hb.frame _,λh=>by cases h⟩
 ·rw[c,b];have:f.resultTypes.size=1:=by rw[<- uF,b];rfl
  rw[this];refine⟨[],[],⟨1,?_⟩,rfl,rfl⟩;unfold DataW.trod;rw[w];rfl
 ·rw[c];exact N2 hl hb e (λx hx=>v x (by simp[hx])) m
 ·rw[c];exact Below.trodVars hl hb j o
def Sep.start(W:bI):Sep (World.env W) [ek W.heap] W:=
 ⟨rfl,λx=>x<W.heap.size,⟨λ_ _=>rfl,λ_=>mz⟩,λ_ hb=>⟨hb,id⟩,trivial⟩
def Sep.below{L:cr}{W a:bI}{i:Nat}(h:Sep (World.env W) L a)(d:L[i]?=some (ek W.heap)):Below W.heap.size W a:=by
 have h:=h.fr i d;obtain⟨he,F,⟨h1,h2⟩,c,_⟩:=h;have e:=he;simp only[World.env,Env.mk.injEq]at e;refine⟨e.1,e.2.1,e.2.2,?_,h1⟩;rcases k3 W.heap.size with b|b;·omega
 ·have:=(c (W.heap.size-1) ((h2 _).2 bu)).1;omega
def Sep.pf{E:Env}{L:cr}{w W:bI}{i:Nat}(h:Sep E L w)(c:L[i]?=some (ek W.heap)){a:Addr}{v:bH}(b:W.cell? a=some v):w.cell? a=some v:=by
 have h:=h.fr i c;have hb:a.block<W.heap.size:=by
  rcases hE a.block W.heap.size with h' | h';·exact h'
  ·simp[World.cell?,xp h']at b
 have:=h.kJ a.block hb;unfold World.cell? at b ⊢;rw[this];exact b
end
end Go.Sp
namespace Go.Sp
open Go Go.Vc
def tB(P:cS)(a:bZ->bX (bA bZ)):bA Field->Nat->bX (bA bZ)
 |[],_=>some []
 |f::fs,o=>match Nat.beq f.offset o,a f.type with
  |true,some l=>match Nat.beq (P.cellsOf f.type) l.length with
   |true=>match tB P a fs (o+l.length)with
    |some r=>some (l++r)
    |none=>none
   |false=>none
  |_,_=>none
def tC(P:cS):Nat->bZ->bX (bA bZ)
 |0,_=>none
 |d+1,t=>match P.underlying t with
  |some (.struct fs)=>match tB P (tC P d) fs.toList 0 with
   |some l=>match Nat.beq (P.cellsOf t) l.length with
    |true=>some l
    |false=>none
   |none=>none
  |some (.int _)=>some [t]
  |some .bool=>some [t]
  |some .string=>some [t]
  |some (.slice _)=>some [t]
  |_=>none
section
variable{P:cS}{W:bI}
def r0(P:cS)(W:bI):bA bZ->bA bH->Prop
 |[],[]=>True
 |t::ts,v::vs=>Rd P W t [v]/\r0 P W ts vs
 |_,_=>False
def r0.append:∀ {ts us:bA bZ} {vs xs:bA bH},r0 P W ts vs->r0 P W us xs->r0 P W (ts++us) (vs++xs)
 |[],_,[],_,_,h=>h
 |_::_,_,_::_,_,⟨h1,h2⟩,h=>⟨h1,h2.append h⟩
 |[],_,_::_,_,h,_=>h.elim
 |_::_,_,[],_,h,_=>h.elim
def Rd.leaves:∀(d:Nat) {t:bZ} {ts:bA bZ} {cs:bA bH},tC P d t=some ts->Rd P W t cs->r0 P W ts cs:=by
 intro d;induction d with
 |zero=>intro t ts cs h;simp[tC]at h
 |succ d E=>
  intro t ts cs h hr;unfold tC at h;cases hu:P.underlying t with
  |none=>simp[hu]at h
  |some x=>
   cases x<;>simp only[hu]at h<;>try (simp at h;done)
   case bool=>
    simp only[fT]at h;subst h;obtain⟨b,rfl⟩:=hr.bool hu;exact⟨hr,trivial⟩
   case int k=>
    simp only[fT]at h;subst h;obtain⟨b,rfl,_⟩:=hr.int hu;exact⟨hr,trivial⟩
   case string=>
    simp only[fT]at h;subst h;obtain⟨b,rfl,_⟩:=hr.str hu;exact⟨hr,trivial⟩
   case slice e=>
    simp only[fT]at h;subst h;obtain⟨p,n,c,rfl,_⟩:=hr.slice hu;exact⟨hr,trivial⟩
   case struct fs=>
    cases j:tB P (tC P d) fs.toList 0 with
    |none=>simp[j]at h
    |some l=>
     simp only[j]at h;split at h
     ·next A=>
      simp only[fT]at h;subst h;obtain⟨hlen,u⟩:=hr.struct hu;rw[kz A]at hlen;have key:∀(a:bA Field) (o:Nat) (l:bA bZ),tB P (tC P d) a o=some l->(∀f∈a,Rd P W f.type ((cs.drop f.offset).take (P.cellsOf f.type)))->cs.length=o+l.length->r0 P W l (cs.drop o):=by
       intro a;induction a with
       |nil=>
        intro o l hl _ q;simp only[tB,fT]at hl;subst hl;rw[lo (by simpa using Nat.le_of_eq q)];trivial
       |cons f a B=>
        intro o l hl m q;unfold tB at hl;split at hl
        ·next s ho v=>
         split at hl
         ·next hn=>
          split at hl
          ·next r z=>
           simp only[fT]at hl;subst hl;have y:=kz ho;have w:=kz hn;have h1:=m f (by simp);rw[y,w]at h1;have h2:=E v h1;have C:=B (o+s.length) r z (λg j=>m g (by simp[j])) (by rw[q,df];omega);have e:cs.drop o=(cs.drop o).take s.length++cs.drop (o+s.length):=by
            rw[<- ru,fP]
           rw[e];exact h2.append C
          ·simp at hl
         ·simp at hl
        ·simp at hl
      have:=key fs.toList 0 l j (λf hf=>by
       obtain⟨i,D,rfl⟩:=jn.1 hf;exact u i _ (by simp at D ⊢)) (by simpa using hlen)
      simpa using this
     ·simp at h
end
end Go.Sp
namespace Go.Sp
open Go Go.Vc
def eW{ι:Type}(f:ι->Asn):Asn:=
  ⟨λh F=>∃a:ι->Nat->Prop,(∀i,(f i).holds h (a i))/\(∀i j b,i≠j->a i b->¬ a j b)/\∀b,F b↔∃i,a i b,
   λ⟨a,h1,h2,c⟩ hl=>⟨a,λi=>(f i).loc (h1 i) (λb hb=>hl b ((c b).2 ⟨i,hb⟩)),h2,c⟩⟩
section
variable{E:Env}{L:cr}{w:bI}{ι:Type}[DecidableEq ι]
def fh(f:ι->Asn)(i:ι)(A:Asn):ι->Asn:=λj=>if j=i then A else f j
omit [DecidableEq ι] in
def eW.nil(h:Sep E L w){f:ι->Asn}(hf:∀i,f i=emp):Sep E (eW f::L) w:=by
 obtain⟨he,h⟩:=h;refine⟨he,λ_=>False,⟨λ_ _=>False,λi=>?_,λ_ _ _ _ h=>h.elim,λb=>⟨λh=>h.elim,λ⟨_,h⟩=>h.elim⟩⟩,λ_ h=>h.elim,h.weaken (λ_ hb=>hb.elim id id)⟩;rw[hf];exact λ_ h=>h
def eW.out{f:ι->Asn}(h:Sep E (eW f::L) w)(i:ι):Sep E (f i::eW (fh f i emp)::L) w:=by
 obtain⟨he,F,⟨a,h1,h2,c⟩,g,o⟩:=h;refine⟨he,a i,h1 i,λb hb=>g b ((c b).2 ⟨i,hb⟩),λb=>∃j,j≠i/\a j b,⟨λj b=>j≠i/\a j b,λj=>?_,?_,λb=>mz⟩,?_,?_⟩
 ·unfold fh;split;·next d=>subst d;exact λb hb=>hb.1 rfl
  ·next d=>
   have e:(λb=>j≠i/\a j b)=a j:=by funext b;simp[d]
   show(f j).holds w.heap (λb=>j≠i/\a j b);rw[e];exact h1 j
 ·intro j k b n hb l;exact h2 j k b n hb.2 l.2
 ·rintro b ⟨j,m,hb⟩;refine⟨(g b ((c b).2 ⟨j,hb⟩)).1,?_⟩;rintro(hu|hu);·exact hu
  ·exact h2 j i b m hb hu
 ·refine o.weaken ?_;rintro b ((hu|hu)|⟨j,m,hu⟩);·exact hu.elim
  ·exact .inr ((c b).2 ⟨i,hu⟩)
  ·exact .inr ((c b).2 ⟨j,hu⟩)
def eW.qs{f:ι->Asn}{i:ι}{A:Asn}(h:Sep E (A::eW f::L) w)(r:f i=emp):Sep E (eW (fh f i A)::L) w:=by
 obtain⟨he,F,h1,h2,G,⟨m,n,p,d⟩,g,q⟩:=h;have o:∀b,¬ m i b:=by
  have:=n i;rw[r]at this;exact this
 refine⟨he,λb=>F b\/G b,⟨λj b=>if j=i then F b else m j b,λj=>?_,?_,λb=>?_⟩,?_,?_⟩
 ·unfold fh;split;·next l=>subst l;simpa using h1
  ·next l=>simpa[l]using n j
 ·intro j k b e hb a;by_cases c:j=i
  ·by_cases hk:k=i;·exact e (c.trans hk.symm)
   ·simp only[c,g4]at hb;simp only[hk,gU]at a;exact(g b ((d b).2 ⟨k,a⟩)).2 (.inr hb)
  ·simp only[c,gU]at hb;by_cases hk:k=i
   ·simp only[hk,g4]at a;exact(g b ((d b).2 ⟨j,hb⟩)).2 (.inr a)
   ·simp only[hk,gU]at a;exact p j k b e hb a
 ·constructor
  ·rintro(hb|hb);·exact⟨i,by simpa using hb⟩
   ·obtain⟨j,c⟩:=(d b).1 hb;refine⟨j,?_⟩;have:j≠i:=by rintro rfl;exact o b c
    simpa[this]using c
  ·rintro⟨j,c⟩;by_cases h:j=i;·exact .inl (by simpa[h]using c)
   ·exact .inr ((d b).2 ⟨j,by simpa[h]using c⟩)
 ·rintro b (hb|hb);·exact h2 b hb
  ·exact⟨(g b hb).1,λhu=>hu⟩
 ·refine q.weaken ?_;rintro b (hu|hu|hu);·exact hu.elim
  ·exact .inl (.inr hu)
  ·exact .inr hu
def ZQ(f:ι->Asn)(i:ι)(A B:Asn):fh (fh f i A) i B=fh f i B:=by
 funext j;unfold fh;split<;>simp_all
@[simp] theorem aMx(f:ι->Asn)(i:ι)(A:Asn):fh f i A i=A:=by simp[fh]
def eW.back{f:ι->Asn}{i:ι}{A:Asn}(h:Sep E (A::eW (fh f i emp)::L) w):Sep E (eW (fh f i A)::L) w:=by
 have:=eW.qs (i:=i) h (by simp);rwa[ZQ]at this
end
end Go.Sp
namespace Go.Sp
open Go Go.Vc
def bw(s:Sl)(m:Nat)(vs:bA bH):Asn:=
 match s.p with
 |none=>cL (s.n=0/\s.c=0/\vs= []) emp
 |some a=>fo λspare:bA bH=>cL (a.off=0/\a.spot=none/\vs.length=s.n*m/\vs.length+spare.length=s.c*m/\s.n<=s.c) (bD a.block (vs++spare))
section
variable{E:Env}{L:cr}{w:bI}{P:cS}{s:Sl}{m:Nat}{vs:bA bH}
def bw.none_(h:Sep E L w):Sep E (bw ⟨none,0,0⟩ m []::L) w:=Sep.cL.2 ⟨⟨rfl,rfl,rfl⟩,Sep.emp.2 h⟩
def bw.make{b n c:Nat}{spare:bA bH}(h:Sep E (bD b (vs++spare)::L) w)(h1:vs.length=n*m)(h2:vs.length+spare.length=c*m)(a:n<=c):Sep E (bw ⟨some ⟨b,0,none⟩,n,c⟩ m vs::L) w:=
 Sep.ex.2 ⟨spare,Sep.cL.2 ⟨⟨rfl,rfl,h1,h2,a⟩,h⟩⟩
def bw.length(h:Sep E (bw s m vs::L) w):vs.length=s.n*m:=by
 unfold bw at h;split at h;·obtain⟨⟨h1,_,a⟩,_⟩:=Sep.cL.1 h;rw[h1,a];simp
 ·obtain⟨_,h⟩:=Sep.ex.1 h;exact(Sep.cL.1 h).1.2.2.1
def bw.iB(h:Sep E (bw s m vs::L) w)(hn:0<s.n):∃b spare,s.p=some ⟨b,0,none⟩/\vs.length=s.n*m/\vs.length+spare.length=s.c*m/\s.n<=s.c/\Sep E (bD b (vs++spare)::L) w:=by
 unfold bw at h;split at h;·obtain⟨⟨h1,_⟩,_⟩:=Sep.cL.1 h;omega
 ·next a f=>
  obtain⟨spare,h⟩:=Sep.ex.1 h;obtain⟨⟨h1,h2,c,d,e⟩,h⟩:=Sep.cL.1 h;refine⟨a.block,spare,?_,c,d,e,h⟩;rw[f];cases a;simp_all
def bw.cell{b:Nat}{spare:bA bH}(h:Sep E (bD b (vs++spare)::L) w){j:Nat}(a:j<vs.length):w.cell? ⟨b,j,none⟩=vs[j]? :=by
 rw[h.cell,eQ a]
def bw.el{i:Int}{f:Addr->Prop}(q:Nat)(h:Sep E L w)(c:L[q]?=some (bw s m vs))(a:0<=i)(h1:i<s.n)(k:∀b,s.p=some ⟨b,0,none⟩->(∀j,j<m->w.cell? ⟨b,i.toNat*m+j,none⟩=vs[i.toNat*m+j]?)->f ⟨b,i.toNat*m,none⟩):cF s.p s.n i m f:=by
 have h:=h.fr q c;obtain⟨b,spare,hp,hl,_,_,h⟩:=bw.iB h bu;refine⟨⟨b,0,none⟩,hp,⟨a,h1⟩,?_⟩;rw[cj,fz];refine k b hp (λj d=>bw.cell h ?_);have:i.toNat*m+m<=s.n*m:=by
  rw[<- xF];exact k2 _ bu
 omega
def bw.st{b o:Nat}{v:bH}{f:bi9}(h:Sep E (bw s m vs::L) w)(hp:s.p=some ⟨b,0,none⟩)(ho:o<vs.length)(k:∀c,Sep E (bw s m (vs.set o v)::L) c->f c):St ⟨b,o,none⟩ v f w:=by
 have hl:=bw.length h;have hn:0<s.n:=by
  rcases k3 s.n with d|d
  ·have l:vs.length=0:=by rw[hl,d,nA]
   omega
  ·exact d
 obtain⟨j,spare,a,h1,h2,g,h⟩:=bw.iB h hn;rw[hp]at a;simp only[fT,Addr.mk.injEq,and_true]at a;subst a;refine St.i h (by simp;omega) (λc e=>k c ?_);rw[sD _ _ ho]at e;have i:s=⟨some ⟨b,0,none⟩,s.n,s.c⟩:=by cases s;simp_all
 rw[i];exact bw.make (spare:=spare) e (by simpa using h1) (by simpa using h2) g
def bw.sM{b o:Nat}{xs:bA bH}{f:bi9}(h:Sep E (bw s m vs::L) w)(hp:s.p=some ⟨b,0,none⟩)(hx:0<xs.length)(ho:o+xs.length<=vs.length)(k:∀c,Sep E (bw s m (iw vs o xs)::L) c->f c):k5 xs ⟨b,o,none⟩ f w:=by
 have hl:=bw.length h;have hn:0<s.n:=by
  rcases k3 s.n with d|d
  ·have n:vs.length=0:=by rw[hl,d,nA]
   omega
  ·exact d
 obtain⟨l,spare,a,h1,h2,i,h⟩:=bw.iB h hn;rw[hp]at a;simp only[fT,Addr.mk.injEq,and_true]at a;subst a;refine k5.i h (by simp;omega) (λc g=>k c ?_);have e:iw (vs++spare) o xs=iw vs o xs++spare:=by
  rw[o7 _ _ _ (by simp;omega),o7 _ _ _ ho,sy bu,Ua ho];simp
 rw[e]at g;have j:s=⟨some ⟨b,0,none⟩,s.n,s.c⟩:=by cases s;simp_all
 rw[j];exact bw.make (spare:=spare) g (by simpa using h1) (by simpa using h2) i
def tD(z:cf bH)(n:Nat):(Builtin.zeroCells z n).toList.length=n*z.size:=by simp[Builtin.zeroCells]
def bw.append{x:bH}{k:Nat}{news:bA bH}{st D ty:bZ}{dj:Nat}{zs:bA bH}(h:Sep E (bw s m vs::L) w)(z:hG P st=some (dj,m,zs))(C:zs.length=m)(v:Src P m D x k news w)(hk:0<k)(p:(s.n+k)*(dj+1)<=70368744177664){G:Sl->bi9}(g:∀s' d,s'.n=s.n+k->Sep E (bw s' m (vs++news)::L) d->G s' d):
  ∃y:Sl,∃d,Sem.run P (Builtin.append_ #[st,D] ty #[.slice s.p s.n s.c,x]) w=.ok (.slice y.p y.n y.c) d/\G y d:=by
 have i:=v.newsLen;have J:(s.n+k)*dj+(s.n+k)<=70368744177664:=by rw[nB,fY]at p;exact p
 have n:∀c,c<s.n+k->Builtin.nextslicecap (s.n+k) c*dj<=281474976710656:=by
  intro c f;have hle:Builtin.nextslicecap (s.n+k) c<=2*(s.n+k)+1000:=by
   unfold Builtin.nextslicecap;split;·omega
   ·split;·omega
    ·have go:∀r c,c<=s.n+k+((s.n+k)+768)/4->Builtin.growBy (s.n+k) r c<=s.n+k+((s.n+k)+768)/4:=by
      intro r;induction r with
      |zero=>intro c f;exact f
      |succ r A=>
       intro c f;unfold Builtin.growBy;split;·exact f
       ·exact A _ bu
     have:=go 4 c bu;omega
  have h1:=k2 dj hle;rw[kC,HD]at h1;have h2:dj<=(s.n+k)*dj:=Nat.le_mul_of_pos_left _ bu;by_cases N:s.n+k<=1000
  ·have q:dj<=70368744177664:=by omega
   have t:Builtin.nextslicecap (s.n+k) c<=4*(s.n+k):=by
    unfold Builtin.nextslicecap;split;·omega
    ·split;·omega
     ·have go:∀r c,c<=s.n+k+((s.n+k)+768)/4->Builtin.growBy (s.n+k) r c<=s.n+k+((s.n+k)+768)/4:=by
       intro r;induction r with
       |zero=>intro c f;exact f
       |succ r A=>
        intro c f;unfold Builtin.growBy;split;·exact f
        ·exact A _ bu
      have:=go 4 c bu;omega
   have B:=k2 dj t;rw[HD]at B;omega
  ·have j:1000*dj<=(s.n+k)*dj:=k2 _ bu;omega
 unfold bw at h;split at h
 ·next hp=>
  obtain⟨⟨h1,h2,q⟩,h⟩:=Sep.cL.1 h;have h:=Sep.emp.1 h;rw[hp,h1,h2];refine jG.i h z v hk bu (by have:=n 0 bu;rw[h1,fz]at this;exact this) (λF c' d l t=>g _ d (by simp[h1]) ?_);subst q;refine bw.make (spare:=(Builtin.zeroCells zs.toArray (c'-k)).toList) t (by simpa using i) ?_ l;rw[tD];simp only[l1,i,Hn,C,<- kC];congr 1;omega
 ·next a I=>
  obtain⟨spare,h⟩:=Sep.ex.1 h;obtain⟨⟨h1,h2,q,t,B⟩,h⟩:=Sep.cL.1 h;obtain⟨b,o,sp⟩:=a;simp only at h1 h2;subst h1 h2;rw[I];have K:((s.n+k)*m)=s.n*m+k*m:=kC _ _ _;by_cases hr:s.n+k<=s.c
  ·have hle:(s.n+k)*m<=s.c*m:=k2 _ hr;refine append.i h z v (by simp;omega) (λ_=>by simp;omega) bu (λu=>bu) (λ_ d j=>g _ d rfl ?_) (λM=>bu)
   ·have e:iw (vs++spare) (0+s.n*m) news=vs++news++spare.drop news.length:=by
     rw[o7 _ _ _ (by simp;omega),sy bu,iq bu,Ut];rw[List.drop_eq_nil_of_le bu];simp only[l1];congr 2;omega
    rw[e]at j;refine bw.make (spare:=spare.drop news.length) j (by simp;omega) (by simp;omega) hr
  ·refine append.i h z v (by simp;omega) (λu=>absurd u hr) bu (n _) (λu=>absurd u hr) (λ_ F c' d l j=>g _ d rfl ?_);have e:((vs++spare).drop 0).take (s.n*m)=vs:=by
    rw[rv,sy bu,iq bu]
   rw[e]at j;have H:=(j.fr 1 rfl).tail;refine bw.make (spare:=(Builtin.zeroCells zs.toArray (c'-(s.n+k))).toList) H (by simp;omega) ?_ l;rw[tD];simp only[df,q,i,Hn,C,<- kC];congr 1;omega
def Src.bD{b n c i:Nat}{C:bA bH}{a:bZ}{dj:Nat}{zs:bA bH}(h:Sep E L w)(d:L[i]?=Option.some (Sp.bD b C))(f:hG P a=Option.some (dj,m,zs))(hl:C.length=n*m)(h1:∀u∈C,u.oneCell'=true):
  Src P m a (.slice (Option.some ⟨b,0,none⟩) n c) n C w:=by
 obtain⟨e,k,z,g,_⟩:=pW f;exact Src.ofSlice w g ⟨b,0,none⟩ n c C hl (λj u hu=>by rw[cj,h.cellAt i d,fz];exact hu) h1
end
end Go.Sp
namespace Go.Sp
open Go Go.Vc
def bO{α:Type}(f:α->bA bH)(l:bA α):bA bH:=(l.map f).flatten
section
variable{α:Type}{f:α->bA bH}{m:Nat}(hf:∀a,(f a).length=m)
include hf
def oD(l:bA α):(bO f l).length=l.length*m:=by
 induction l with
 |nil=>simp[bO]
 |cons a l b=>
  have:bO f (a::l)=f a++bO f l:=rfl;rw[this,df,hf,b,hN,kC,Nat.one_mul,sI]
def ZR(l:bA α)(i j:Nat)(c:j<m):(bO f l)[i*m+j]?=l[i]?.bind λa=>(f a)[j]? :=by
 induction l generalizing i with
 |nil=>simp[bO]
 |cons a l b=>
  have:bO f (a::l)=f a++bO f l:=rfl;rw[this];cases i with
  |zero=>rw[eQ (by rw[hf];omega)];simp
  |succ i=>
   rw[fL (by rw[hf,kC];omega),hf];have e:(i+1)*m+j-m=i*m+j:=by rw[kC];omega
   rw[e,b i];simp
def tE{l:bA α}{i:Nat}{a:α}(h:l[i]?=some a)(j:Nat)(b:j<m):(bO f l)[i*m+j]?=(f a)[j]? :=by
 rw[ZR hf l i j b,h];rfl
def Et{l:bA α}{i j:Nat}{a a':α}{v:bH}(h:l[i]?=some a)(g:j<m)(c:f a'=(f a).set j v):(bO f l).set (i*m+j) v=bO f (l.set i a'):=by
 induction l generalizing i with
 |nil=>simp at h
 |cons b l d=>
  have e0:bO f (b::l)=f b++bO f l:=rfl;rw[e0];cases i with
  |zero=>
   simp only[k1,fT]at h;subst h;rw[sD _ _ (by rw[hf];omega),nA,fz,<- c];rfl
  |succ i=>
   rw[iD _ _ (by rw[hf,kC];omega),hf];have e:(i+1)*m+j-m=i*m+j:=by rw[kC];omega
   rw[e,d (by simpa using h)];rfl
def ZS{l:bA α}{i j:Nat}{a a':α}{xs:bA bH}(h:l[i]?=some a)(q:j+xs.length<=m)(d:f a'=iw (f a) j xs):iw (bO f l) (i*m+j) xs=bO f (l.set i a'):=by
 induction l generalizing i with
 |nil=>simp at h
 |cons b l o=>
  have e0:bO f (b::l)=f b++bO f l:=rfl;have hlen:=oD hf (b::l);have e:i<(b::l).length:=by
   rcases hE i (b::l).length with h' | h';·exact h'
   ·simp[gI h']at h
  have hle:i*m+m<=(b::l).length*m:=by rw[<- xF];exact k2 _ e
  rw[o7 _ _ _ (by rw[hlen];omega),e0];cases i with
  |zero=>
   simp only[k1,fT]at h;subst h;rw[o7 _ _ _ (by rw[hf];omega)]at d;have c:bO f ((b::l).set 0 a')=f a'++bO f l:=rfl;rw[c,d,nA,fz,sy (by rw[hf];omega),Ua (by rw[hf];omega)];simp
  |succ i=>
   have k:=oD hf l;have g:i<l.length:=by simpa using e
   have n:i*m+m<=l.length*m:=by rw[<- xF];exact k2 _ g
   have:=o (by simpa using h);rw[o7 _ _ _ (by rw[k];omega)]at this;have c:bO f ((b::l).set (i+1) a')=f b++bO f (l.set i a'):=rfl;rw[c,<- this,List.take_append,Ut];have p:(i+1)*m+j-(f b).length=i*m+j:=by rw[hf,kC];omega
   have q2:(i+1)*m+j+xs.length-(f b).length=i*m+j+xs.length:=by rw[hf,kC];omega
   rw[p,q2,iq (by rw[hf,kC];omega),lo (by rw[hf,kC];omega)];simp
omit hf in
def nm(l l':bA α):bO f (l++l')=bO f l++bO f l':=by simp[bO]
omit hf in
def ph(a:α):bO f [a]=f a:=by simp[bO]
end
end Go.Sp
namespace Go.Sp
open Go Go.Vc Go.WideElems Go.WideShapes Go.RowKit
structure KeysOf(f:Int->bX bH)(l:bS):Prop where
 c1:l.Pairwise (· < ·)
 mem:∀k,k∈l↔(f k).isSome=true
def bC(l:bS):bA bH:=l.map (Value.int .i64)
@[simp] theorem ZT(l:bS):(bC l).length=l.length:=by simp[bC]
@[simp] theorem z1(l:bS)(i:Nat):(bC l)[i]?=l[i]?.map (Value.int .i64):=by simp[bC]
def r1:∀(N:Nat) (l:bS),l.Nodup->(∀x∈l,0<=x/\x<N)->l.length<=N
 |0,l,_,h=>by
  cases l with
  |nil=>simp
  |cons x l=>have:=h x (by simp);omega
 |N+1,l,b,h=>by
  have h1:=r1 N (l.filter (· ≠(N:Int))) (b.filter _) (λx hx=>by
   simp only[gp,gD]at hx;have:=h x hx.1;omega)
  by_cases hm:(N:Int)∈l
  ·have h2:(l.filter (· ≠(N:Int))).length=l.length-1:=by
    have:l.filter (· ≠(N:Int))=l.erase (N:Int):=by rw[b.erase_eq_filter];congr 1;funext x;simp[bne,decide_not];rfl
    rw[this,List.length_erase_of_mem hm]
   omega
  ·have:l.filter (· ≠(N:Int))=l:=by
    rw[xw];intro a c;simp only[ne_eq,gD];rintro rfl;exact hm c
   rw[this]at h1;omega
section
variable{E:Env}{L:cr}{w:bI}{P:cS}{f:Int->bX bH}{b:Nat}
def tF:bH->bX (DataW Unit×bA MemPlace):=λ_=>some (.lit (.bool true),[])
def cM.owns{i:Nat}{kt:bZ}(h:Sep E L w)(A:L[i]?=some (cM b (Value.int .i64) f))(hk:P.underlying kt=some (.int .i64)){N:Nat}(o:∀k v,f k=some v->0<=k/\k<N)(hb:N<=17592186044416):
  ∃D:DataW Unit,w.ownsMap P kt tF b N D/\Maps.size D<=N/\∀g:bS,g.Perm (intKeys D)->g.Nodup/\∀k,k∈g↔(f k).isSome=true:=by
 obtain⟨es,ck,q,M⟩:=cM.at_ h A;have m:∀e∈es,∃k:Int,e.key=.int .i64 k/\f k=some e.val/\(Lit.int .i64 k).wf=true:=by
  intro e he;obtain⟨k,h1,h2⟩:=M.key e he;refine⟨k,h1,h2,?_⟩;have:=o k _ h2;simp only[Lit.wf,IntKind.min,IntKind.max,IntKind.signed,IntKind.bits,dF,gD];constructor<;>simp<;>omega
 let c:MapEntry->Int:=λe=>match e.key with | .int _ n=>n|_=>0
 have d:∀e∈es,e.key=.int .i64 (c e)/\f (c e)=some e.val/\(Lit.int .i64 (c e)).wf=true:=by
  intro e he;obtain⟨k,h1,h2,y⟩:=m e he;have:c e=k:=by simp only[c,h1]
  rw[this];exact⟨h1,h2,y⟩
 have j:(es.map c).Nodup:=by
  rw[nx,kk];refine G2 ?_ M.one;intro a b z hb s he;exact s (by rw[(d a z).1,(d b hb).1,he])
 have hlen:es.length<=N:=by
  have:=r1 N (es.map c) j (λx hx=>by
   obtain⟨e,he,rfl⟩:=fD.1 hx;exact o _ _ (d e he).2.1)
  simpa using this
 have l:∀e∈es,rd P kt tF e=some (.int .i64 (c e),.lit (.bool true)):=by
  intro e he;have r:=d e he;unfold rd;rw[r.1,Maps.keyOf_int_mk hk r.2.2];rfl
 have t:es.map (rg P kt tF)=es.map λe=>(Lit.int .i64 (c e),(DataW.lit (.bool true):DataW Unit)):=by
  apply Un;intro e he;unfold rg;rw[l e he];rfl
 refine⟨.map ((es.map (rg P kt tF)).foldr DataW.insert []),⟨es.toArray,ck,q,⟨?_,?_,?_⟩,by simpa using hlen,by simp⟩,?_,?_⟩;·simp[maxLen];omega
 ·refine⟨by simpa using M.born,?_,?_⟩;·simp only[nx,kk];exact M.lF
  ·simp only[nx,kk];exact M.one
 ·intro x hx;exact⟨_,l x (by simpa using hx)⟩
 ·show((es.map (rg P kt tF)).foldr DataW.insert []).length<=N;rw[(sorted_perm _).length_eq];simpa using hlen
 ·intro g u;have hp:g.Perm (es.map c):=by
   refine u.trans ?_;show(((es.map (rg P kt tF)).foldr DataW.insert []).map λp=>intOf p.1).Perm _;refine((sorted_perm _).map _).trans ?_;rw[t,uS];exact List.Perm.of_eq (Un (λe _=>rfl))
  refine⟨hp.nodup_iff.2 j,λk=>?_⟩;rw[hp.mem_iff,fD];constructor
  ·rintro⟨e,he,rfl⟩;rw[(d e he).2.1];rfl
  ·intro B;obtain⟨v,C⟩:=jf.1 B;obtain⟨e,he,h1,h2⟩:=M.has k v C;refine⟨e,he,?_⟩;have:=(d e he).1;rw[h1]at this;simpa using this.symm
def N3{d:bS}(hn:d.Nodup):(d.mergeSort λx y=>decide (x<=y)).Pairwise (· < ·):=by
 have h1:=List.pairwise_mergeSort (le:=λx y:Int=>decide (x<=y)) (by simpa using λa b c=>Int.le_trans) (by simpa using λa b=>Int.le_total a b) d;have h2:(d.mergeSort λx y=>decide (x<=y)).Nodup:=(Bb _ _).nodup_iff.2 hn;rw[nx]at h2;exact(h1.and h2).imp (λ{a b} h=>by have:=h.1;simp at this;have:=h.2;omega)
def Eu{W:bI}{v:bH}{l:bS}{d:bZ}(h:Sep E L w)(hw:W.ownsRow w.heap.size d 1 v l.length (l.map encZ))(hb:RowKit.Below w.heap.size w W):
  ∃s:Sl,v=.slice s.p s.n s.c/\s.n=l.length/\Sep E (bw s 1 (bC l)::L) W:=by
 obtain⟨hl,f|⟨g,cap,cur,n,j,a,hle,k,e,b⟩⟩:=hw
 ·obtain⟨rfl,h1⟩:=f;have:l= []:=uC h1;subst this;refine⟨⟨none,0,0⟩,rfl,rfl,bw.none_ (h.grow ⟨hb.os,hb.tape,hb.output,hb.size,hb.block⟩)⟩
 ·refine⟨⟨some ⟨g,0,none⟩,l.length,cap⟩,n,rfl,?_⟩;have c:cur.toList=bC l++cur.toList.drop l.length:=by
   have:bC l=cur.toList.take l.length:=by rw[fY]at b;exact b.symm
   rw[this,fP]
  have m:cur.toList.length=cap:=by simpa using e
  have i:Sep E (bD g (bC l++cur.toList.drop l.length)::L) W:=by
   refine h.new ⟨hb.os,hb.tape,hb.output,hb.size,hb.block⟩ (F':=λx=>x=g) ⟨⟨d,(0,0),?_,λ_ _ o=>bu⟩,λ_=>mz⟩ (λx hx=>?_);·rw[a,<- c]
   ·subst hx;exact⟨j,(pG.1 a).1⟩
  exact bw.make i (by simp) (by simp;omega) hle
end
end Go.Sp
namespace Go.Sp
open Go Go.Vc
def bT{b:Bool}{A B:Prop}(h:b=true)(k:A):bif b then A else B:=by subst h;exact k
def bF{b:Bool}{A B:Prop}(h:b=false)(k:B):bif b then A else B:=by subst h;exact k
def cU{n i:Int}{A B:Prop}(h1:n<i->A)(h2:i<=n->B):bif decide (n<i)then A else B:=
 cy (λh=>h1 (by simpa using h)) (λh=>h2 (by simpa using h))
def ij{n i:Int}{A B:Prop}(h1:n<=i->A)(h2:i<n->B):bif decide (n<=i)then A else B:=
 cy (λh=>h1 (by simpa using h)) (λh=>h2 (by simpa using h))
def hq{n i:Int}{A B:Prop}(h1:i<=n->A)(h2:n<i->B):bif decide (n≥i)then A else B:=
 cy (λh=>h1 (by simpa using h)) (λh=>h2 (by simpa using h))
def gv{n i:Int}{A B:Prop}(h1:i<n->A)(h2:n<=i->B):bif decide (n>i)then A else B:=
 cy (λh=>h1 (by simpa using h)) (λh=>h2 (by simpa using h))
def g0{n i:Int}{A B:Prop}(h1:n≠i->A)(h2:n=i->B):bif(n !=i)then A else B:=
 cy (λh=>h1 (by simpa using h)) (λh=>h2 (by simpa using h))
def eC{n i:Int}{A B:Prop}(h1:n=i->A)(h2:n≠i->B):bif(n==i)then A else B:=
 cy (λh=>h1 (by simpa using h)) (λh=>h2 (by simpa using h))
section
variable{E:Env}{L:cr}{w:bI}{P:cS}
def ld{α:Type}{mk:α->bH}{F:α->Prop}{a:Addr}{b o:Nat}{c:bA bH}{x:α}(h:Sep E L w)(i:Nat)(d:a=⟨b,o,none⟩)(e:L[i]?=some (bD b c))(f:c[o]?=some (mk x))(k:F x):
  ∃x,w.cell? a=some (mk x)/\F x:=⟨x,by rw[d,h.cellAt i e];exact f,k⟩
def ey(f:bi9){b:Nat}{C vs:bA bH}(h:Sep E (bD b C::L) w)(c:C.length=vs.length)(k:∀a,Sep E (bD b vs::L) a->f a):k5 vs ⟨b,0,none⟩ f w:=by
 refine k5.i h bu (λa h1=>k a ?_);rw[o7 _ _ _ bu]at h1;simpa[<- c]using h1
def mN{s:Sl}{l:bS}{i:Int}{f:Addr->Prop}(q:Nat)(h:Sep E L w)(g:L[q]?=some (bw s 1 (bC l)))(hn:s.n=l.length)(d:0<=i)(h1:i<l.length)(k:∀a,w.cell? a=some (.int .i64 (l.getD i.toNat 0))->f a):cF s.p s.n i 1 f:=by
 refine bw.el q h g d bu (λb _ e=>k _ ?_);have:=e 0 bu;rw[l2]at this;rw[this,fY];have c:i.toNat<l.length:=by omega
 simp[c,List.getD,bC]
def nn{s:Sl}{l:bS}{i:Int}{f:Addr->Prop}(q:Nat)(h:Sep E L w)(p:L[q]?=some (bw s 1 (bC l)))(hn:s.n=l.length)(o:0<=i)(h1:i<l.length)(k:∀a,(∀ {L':cr} {w':bI} (d:Nat),Sep E L' w'->L'[d]?=some (bw s 1 (bC l))->w'.cell? a=some (.int .i64 (l.getD i.toNat 0)))->f a):cF s.p s.n i 1 f:=by
 refine bw.el q h p o bu (λb hb _=>k _ (λ{L' w'} d h' m=>?_));have h2:=h'.fr d m;obtain⟨n,spare,c,hl,_,_,h2⟩:=bw.iB h2 bu;have e:n=b:=by rw[hb]at c;simpa using c.symm
 subst e;have:=bw.cell h2 (j:=i.toNat) (by rw[hl,hn];omega);rw[fY,this];have g:i.toNat<l.length:=by omega
 simp[g,List.getD,bC]
end
end Go.Sp
namespace Go.Sp
open Go Go.Vc
section
variable{E:Env}{L:cr}{w:bI}{P:cS}{s:Sl}{m:Nat}{vs:bA bH}
def ZU{st k ty:bZ}{dj:Nat}{zs:bA bH}{x:bH}(b:Src P m k x 0 [] w)(o:hG P st=some (dj,m,zs))(d:s.n<=s.c){G:Sl->bi9}(g:G s w):
  ∃a:Sl,∃j,Sem.run P (Builtin.append_ #[st,k] ty #[.slice s.p s.n s.c,x]) w=.ok (.slice a.p a.n a.c) j/\G a j:=by
 obtain⟨e,i,z,q,l,u,r,h,t⟩:=pW o;subst h;refine⟨s,w,?_,g⟩;obtain⟨p,n,c⟩:=s;have hl:=b.len;have f:=b.cells;simp only at d;rcases b.kind with⟨e',hk⟩|hk<;>cases p<;>simp[Builtin.append_,run_underlying q,run_underlying hk,sizeOf,typeInfo,l,hl,d,f,storeCells]
def bw.cap(h:Sep E (bw s m vs::L) w):s.n<=s.c:=by
 unfold bw at h;split at h;·obtain⟨⟨h1,h2,_⟩,_⟩:=Sep.cL.1 h;omega
 ·obtain⟨_,h⟩:=Sep.ex.1 h;exact(Sep.cL.1 h).1.2.2.2.2
def bw.app{x:bH}{k:Nat}{news:bA bH}{st i ty:bZ}{dj:Nat}{zs:bA bH}(h:Sep E (bw s m vs::L) w)(f:hG P st=some (dj,m,zs))(j:zs.length=m)(e:Src P m i x k news w)(d:(s.n+k)*(dj+1)<=70368744177664){G:Sl->bi9}(g:∀s' a,s'.n=s.n+k->Sep E (bw s' m (vs++news)::L) a->G s' a):
  ∃b:Sl,∃a,Sem.run P (Builtin.append_ #[st,i] ty #[.slice s.p s.n s.c,x]) w=.ok (.slice b.p b.n b.c) a/\G b a:=by
 rcases k3 k with c|c
 ·subst c;have hn:news= []:=by
   have:=e.newsLen;rw[nA]at this;exact xo.1 this
  subst hn;exact ZU e f (bw.cap h) (g s w rfl (by rw[g3];exact h))
 ·exact bw.append h f j e c d g
def Src.sub{q l n' c':Nat}{k:bZ}{dj:Nat}{zs:bA bH}(h:Sep E L w)(p:L[q]?=some (bw s m vs))(hx:hG P k=some (dj,m,zs))(hl:l+n'<=s.n)(h1:∀u∈vs,u.oneCell'=true):
  Src P m k (.slice (gA s.p l s.c m) n' c') n' ((vs.drop (l*m)).take (n'*m)) w:=by
 obtain⟨e,y,z,i,_⟩:=pW hx;have h:=h.fr q p;have hlen:=bw.length h;have d:((vs.drop (l*m)).take (n'*m)).length=n'*m:=by
  have hle:(l+n')*m<=s.n*m:=k2 _ hl;rw[kC]at hle;simp only[gT,ot];omega
 have f:∀u∈(vs.drop (l*m)).take (n'*m),u.oneCell'=true:=λu hu=>h1 u (uE (oo hu));rcases k3 n' with g|g
 ·subst g;have e0:(vs.drop (l*m)).take (0*m)= []:=by rw[nA];rfl
  rw[e0];refine⟨.inl ⟨e,i⟩,λw'=>by simp[Builtin.lenOf],?_,?_,by simp,λu hu=>by cases hu⟩
  ·cases gA s.p l s.c m with
   |none=>exact run_firstCells_none w m 0 0 c'
   |some a=>exact run_firstCells_some w m 0 a 0 c' [] (by simp) (λj v c=>by simp at c)
  ·cases gA s.p l s.c m with
   |none=>exact run_firstCells_none w.drew m 0 0 c'
   |some a=>exact run_firstCells_some w.drew m 0 a 0 c' [] (by simp) (λj v c=>by simp at c)
 ·have o:=bw.cap h;obtain⟨b,spare,hp,r,t,x,h⟩:=bw.iB h bu;have n:gA s.p l s.c m=some ⟨b,l*m,none⟩:=by
   unfold gA;rw[cK,hp,fC,cj,fz]
  rw[n];refine Src.ofSlice w i ⟨b,l*m,none⟩ n' c' _ d (λj u hu=>?_) f;have c:j<n'*m:=by
   have:=(c2.1 hu).1;rwa[d]at this
  have hle:(l+n')*m<=s.n*m:=k2 _ hl;rw[kC]at hle;rw[cj,bw.cell h (by rw[hlen];omega)];rw[pI,bK c,rm]at hu;exact hu
def jL{α:Type}{f:α->bA bH}{l:bA α}(hf:∀a,(f a).length=m){F:Addr->Prop}{i:Int}{k:Nat}{a:α}(q:Nat)(h:Sep E L w)(o:L[q]?=some (bw s m (bO f l)))(hn:s.n=l.length)(t:i=k)(d:l[k]?=some a)(p:∀b,s.p=some ⟨b,0,none⟩->(∀j v,(f a)[j]?=some v->w.cell? ⟨b,k*m+j,none⟩=some v)->F ⟨b,k*m,none⟩):cF s.p s.n i m F:=by
 have r:=(c2.1 d).1;have g:i.toNat=k:=by omega
 refine bw.el q h o bu bu (λb hb e=>?_);rw[g]at e ⊢;refine p b hb (λj v n=>?_);have c:j<m:=by have:=(c2.1 n).1;rwa[hf]at this
 rw[e j c,tE hf d j c];exact n
def tG{α:Type}{f:α->bA bH}{l:bA α}(hf:∀a,(f a).length=m){F:bi9}{k j b:Nat}{a a':α}{v:bH}(h:Sep E (bw s m (bO f l)::L) w)(hb:s.p=some ⟨b,0,none⟩)(d:l[k]?=some a)(i:j<m)(e:f a'=(f a).set j v)(n:∀c,Sep E (bw s m (bO f (l.set k a'))::L) c->F c):St ⟨b,k*m+j,none⟩ v F w:=by
 have g:=(c2.1 d).1;refine bw.st h hb ?_ (λc h1=>n c ?_)
 ·rw[oD hf];have:(k+1)*m<=l.length*m:=k2 _ g;rw[xF]at this;omega
 ·rw[Et hf d i e]at h1;exact h1
def Ev{α:Type}{f:α->bA bH}(hf:∀a,(f a).length=m)(l:bA α)(k:Nat):(bO f l).take (k*m)=bO f (l.take k):=by
 by_cases hk:k<=l.length
 ·have e:bO f l=bO f (l.take k)++bO f (l.drop k):=by rw[<- nm,fP]
  have hl:(bO f (l.take k)).length=k*m:=by rw[oD hf];simp[pM hk]
  rw[e,sy bu,iq bu]
 ·rw[iq (by rw[oD hf];exact k2 _ bu),iq bu]
def ZV{α:Type}{f:α->bA bH}(hf:∀a,(f a).length=m)(l:bA α)(k:Nat):(bO f l).drop (k*m)=bO f (l.drop k):=by
 by_cases hk:k<=l.length
 ·have e:bO f l=bO f (l.take k)++bO f (l.drop k):=by rw[<- nm,fP]
  have hl:(bO f (l.take k)).length=k*m:=by rw[oD hf];simp[pM hk]
  rw[e,Ua bu,lo bu,l1]
 ·rw[lo (by rw[oD hf];exact k2 _ bu),lo bu];rfl
end
end Go.Sp
namespace Go.Mp
open Go Go.Vc Go.Sp Go.Proofs Go.Kc
variable{E:Env}{L:cr}{w W:bI}
def tH{k:Nat}(h:k<64):2^k<18446744073709551616:=Hb (a:=2) (n:=64) bN h
def z2{x k:Nat}(h:x<18446744073709551616)(hk:64<=k:=by omega):x.testBit k=false:=Nat.testBit_lt_two_pow (lr h (uD (n:=2) (i:=64) bN hk))
def qt(o:Obj):Prop:=∃(c:cf bH) (t:bZ) (z:Nat×Nat),o=.cells c t z/\∀j,j<64->c[j]?=some (.int .u8 (Lib.deBruijn64tab.getD j 0:Nat))
def qt.cell{w:bI}{o:Obj}(h:qt o)(hb:w.heap[2]?=some o){j:Nat}(b:j<64):w.cell? ⟨2,j,none⟩=some (.int .u8 (Lib.deBruijn64tab.getD j 0:Nat)):=by
 obtain⟨c,t,z,rfl,a⟩:=h;unfold World.cell?;dsimp only;rw[hb];simpa using a j b
def hR(T:bA Bool)(j:Nat):Nat:=wd ((T.drop (64*j)).take 64)
def nW(n:Nat):Nat:=(n+63)/64
def mO(T:bA Bool):bA bH:=(List.range (nW T.length)).map λj=>Value.int .u64 (hR T j:Nat)
def tI(T:bA Bool):(mO T).length=nW T.length:=by simp[mO]
def vU{T:bA Bool}{j:Nat}(h:j<nW T.length):(mO T)[j]?=some (.int .u64 (hR T j:Nat)):=by simp[mO,h]
def qu(T:bA Bool)(j:Nat):hR T j<18446744073709551616:=ZK (by simp;omega)
def tJ(T:bA Bool)(j k:Nat)(hk:k<64):(hR T j).testBit k=T.getD (64*j+k) false:=by
 unfold hR;rw[zv,dC,dC,pI,bK hk,rm]
def ZW{T:bA Bool}{i:Nat}(f:i<T.length):(mO T).set (i/64) (.int .u64 ((hR T (i/64) ^^^ 2^(i%64):Nat)))=mO (T.set i (!T.getD i false)):=by
 apply gJ;intro j;have hl:(T.set i (!T.getD i false)).length=T.length:=eh;by_cases b:j<nW T.length
 ·have d:j<nW (T.set i (!T.getD i false)).length:=by rw[hl];exact b
  rw[vU d];by_cases e:i/64=j
  ·subst e;rw[jm (by rw[tI];exact b)];congr 3;apply xt;intro k;by_cases hk:k<64
   ·rw[Nat.testBit_xor,tJ _ _ _ hk,tJ _ _ _ hk,sE];by_cases c:i%64=k
    ·have a:64*(i/64)+k=i:=by omega
     rw[dK c,a,dC (l:=T.set i _),jm f];simp
    ·have a:i≠64*(i/64)+k:=by omega
     rw[dq c,dC (l:=T.set i _),iM a,<- dC,Bool.xor_false]
   ·rw[z2 (Hj (n:=64) (qu _ _) (tH (k4 _ bN))),z2 (qu _ _)]
  ·rw[iM e,vU b];congr 3;apply xt;intro k;by_cases hk:k<64
   ·rw[tJ _ _ _ hk,tJ _ _ _ hk];have a:i≠64*j+k:=by omega
    rw[dC (l:=T.set i _),iM a,<- dC]
   ·rw[z2 (qu _ _),z2 (qu _ _)]
 ·rw[gI (by rw[eh,tI];omega),gI (by rw[tI,hl];omega)]
def jM(b:Nat)(T:bA Bool):Asn:=fo λs:Sl=>cL (s.n=nW T.length/\T.length<=65536) (star (bD b [Iv (T.length:Nat),Sv s]) (bw s 1 (mO T)))
def jM.get{b:Nat}{T:bA Bool}(h:Sep E (jM b T::L) w):∃s:Sl,s.n=nW T.length/\T.length<=65536/\Sep E (bD b [Iv (T.length:Nat),Sv s]::bw s 1 (mO T)::L) w:=by
 obtain⟨s,h⟩:=Sep.ex.1 h;obtain⟨hn,h⟩:=Sep.cL.1 h;exact⟨s,hn.1,hn.2,Sep.star.1 h⟩
def jM.mk{b:Nat}{T:bA Bool}{s:Sl}(hn:s.n=nW T.length)(hb:T.length<=65536)(h:Sep E (bD b [Iv (T.length:Nat),Sv s]::bw s 1 (mO T)::L) w):Sep E (jM b T::L) w:=
 Sep.ex.2 ⟨s,Sep.cL.2 ⟨⟨hn,hb⟩,Sep.star.2 h⟩⟩
def ZX{n:Int}:min1 (eR n 0) 65536=((min (max n 0).toNat 65536:Nat):Int):=by
 unfold min1 eR;split<;>split<;>omega
def ZY(k:Nat):wd (List.replicate k false)=0:=by
 induction k with
 |zero=>rfl
 |succ k a=>rw[oS];unfold wd;rw[a];rfl
def ZZ(n:Int)(h:Sep E L w):Calls P JI #[Iv n] w (cC λv w'=>∃b,v=Pb b/\Sep E (jM b (List.replicate (min (max n 0).toNat 65536) false)::L) w'):=by
 apply Xh;unfold LN;rw[ZX];generalize hm:min (max n 0).toNat 65536=m;have c:m<=65536:=by omega
 have e:(i64.wrap ((i64.wrap ((m:Int)+64))-1)).fdiv (2^(min (6:Int).toNat 64))=((nW m:Nat):Int):=by
  rw[cX (n:=(m:Int)+64) bu bu,cX bu bu,show(m:Int)+64-1=((m+63:Nat):Int) by omega];exact sh _ 6
 rw[e];have f:nW m<=2000:=by unfold nW;omega
 refine⟨bN,makeSlice.i h (by kernel_rfl:hG P Ws=some (8,1,[.int .u64 0])) bu (hh _) bu bu (λb g h1=>?_)⟩;refine Al.i h1 (λp w2 h2=>⟨p,rfl,?_⟩);refine jM.mk (s:=⟨some ⟨b,0,none⟩,nW m,nW m⟩) (by rw[mW]) (by rw[mW];exact c) ?_;rw[mW];have a:=h2.swap;refine Sep.swap (bw.make (spare:=[]) (vs:=mO (List.replicate m false)) ?_ (by rw[tI,mW,fY]) (by rw[tI,mW];simp) (ec _));have d:((List.range (((nW m:Nat):Int).toNat*1)).map λi=>(([Value.int .u64 0]:bA bH).toArray)[i%([Value.int .u64 0]:bA bH).length]!)=mO (List.replicate m false)++[]:=by
  rw[g3];unfold mO;rw[mW,dt,fY];apply Un;intro j _;have:hR (List.replicate m false) j=0:=by
   unfold hR;rw[List.drop_replicate,List.take_replicate];exact ZY _
  rw[this];simp[Nat.mod_one]
 rw[d]at a;exact a
variable{b:Nat}{T:bA Bool}
def Z0{q:Nat}(h:Sep E L w)(a:L[q]?=some (jM b T)):Calls P Jo #[Pb b] w (cC λv w'=>v=Iv (T.length:Nat)/\w'=w):=by
 apply WN;unfold Lt qL;obtain⟨s,_,_,h1⟩:=jM.get (h.fr q a);exact⟨_,rfl,_,h1.cell 0,rfl,rfl⟩
def Ew(i:Nat):dy .i64 (i:Int) 63=((i%64:Nat):Int):=by
 have h1:(BitVec.ofInt 64 (i:Int) &&& BitVec.ofInt 64 63).toNat=i%64:=by
  rw[xB,rl,uG];have:(BitVec.ofInt 64 63).toNat=63:=by decide
  rw[this];have h2:=uB (i%2^64) 6;rw[show(2:Nat)^6-1=63 by decide]at h2;rw[h2];omega
 show i64.wrap ((BitVec.ofInt 64 (i:Int) &&& BitVec.ofInt 64 63).toNat:Int)=_;rw[h1];exact cX bu bu
def vV(i:Nat)(w:bI):Calls P D0 #[Iv (i:Nat)] w (cC λv w'=>v=.tuple #[Iv ((i/64:Nat):Int),.int .u64 ((2^(i%64):Nat):Int)]/\w'=w):=by
 apply Zu;unfold NL;have a:i%64<64:=k4 _ bN;have hp:2^(i%64)<18446744073709551616:=tH a;rw[Ew,dA,show((i:Nat):Int).fdiv (2^(min (6:Int).toNat 64))=((i/64:Nat):Int)from sh i 6];refine⟨bN,bu,?_,rfl⟩;have e:(min ((i%64:Nat):Int).toNat 64)=i%64:=by rw[dt];omega
 rw[e,Int.one_mul];have b:((2:Int)^(i%64))=((2^(i%64):Nat):Int):=by push_cast;rfl
 rw[b,dA hp]
def Z1{q:Nat}(h:Sep E L w)(k:L[q]?=some (jM b T))(i:Int):Calls P KM #[Pb b,Iv i] w (cC λv w'=>v=.bool (decide (0<=i)&&T.getD i.toNat false)/\w'=w):=by
 apply Zt;unfold NK qK qL qW qg zC;obtain⟨s,hn,hb,h1⟩:=jM.get (h.fr q k);refine⟨λw'=>w'=w/\0<=i/\i<T.length,cU (λd=>⟨by rw[dq bu];rfl,rfl⟩) (λd=>⟨_,rfl,_,h1.cell 0,hq (λc=>⟨?_,rfl⟩) (λc=>⟨rfl,d,c⟩)⟩),?_⟩;·rw[dC,gI bu];simp
 ·rintro _ w2 ⟨rfl,f,m⟩;obtain⟨n,rfl⟩:∃n:Nat,i=n:=⟨i.toNat,bu⟩
  refine use (vV n w2) ?_;rintro _ p ⟨rfl,rfl⟩;have j:n/64<nW T.length:=by unfold nW;omega
  refine⟨_,_,rfl,_,rfl,s,h1.cell 1,bw.el 1 h1 rfl bu bu (λo l g=>⟨((hR T (n/64):Nat):Int),?_,?_,rfl⟩)⟩
  ·have:=g 0 bN;rw[l2]at this;rw[this,fY,dt,vU j]
  ·rw[tA (qu _ _) (tH (k4 _ bN))];have e:hR T (n/64) &&& 2^(n%64)=if T.getD n false then 2^(n%64)else 0:=by
    have a:=tJ T (n/64) (n%64) (k4 _ bN);rw[show 64*(n/64)+n%64=n by omega]at a;unfold hR at a ⊢;rw[ZL,<- zv,a]
   rw[e,dK f,dt];have hp:(2^(n%64):Nat)≠0:=Nat.pos_iff_ne_zero.1 (Bi _);cases T.getD n false with
   |true=>simp only[g4,my];congr 1;rw[bne_iff_ne];omega
   |false=>simp
def jz(T:bA Bool)(i:Int)(on:Bool):bA Bool×Bool:=
 if i<0\/(T.length:Int)<=i\/T.getD i.toNat false=on then(T,false)else(T.set i.toNat on,true)
def N4(h:Sep E (jM b T::L) w)(i:Int)(on:Bool):Calls P DT #[Pb b,Iv i,.bool on] w (cZ E (.bool (jz T i on).2) (jM b (jz T i on).1::L)):=by
 apply Y8;unfold Ns qF qK qL qW qg zC;dsimp only;obtain⟨s,hn,hb,h1⟩:=jM.get h;have bad:(i<0\/(T.length:Int)<=i\/T.getD i.toNat false=on)->Value.bool false=.bool (jz T i on).2/\Sep E (jM b (jz T i on).1::L) w:=by
  intro a;unfold jz;rw[bK a];exact⟨rfl,h⟩
 refine⟨λw'=>w'=w/\∃n:Nat,i=n/\n<T.length/\on= !T.getD n false,cU (λa=>bad (.inl a)) (λa=>⟨_,rfl,_,h1.cell 0,hq (λo=>bad (.inr (.inl o))) (λo=>?_)⟩),?_⟩
 ·refine use (Z1 (q:=0) h rfl i) ?_;rintro _ f ⟨rfl,rfl⟩;rw[dK a,my];refine⟨_,rfl,?_⟩;cases he:(T.getD i.toNat false==on)with
  |true=>exact bad (.inr (.inr (by simpa using he)))
  |false=>
   refine⟨rfl,i.toNat,bu,bu,?_⟩;have:T.getD i.toNat false≠on:=by simpa using he
   revert this;generalize T.getD i.toNat false=y;cases y<;>cases on<;>simp
 ·rintro _ w2 ⟨rfl,n,rfl,r,rfl⟩;refine use (vV n w2) ?_;rintro _ f ⟨rfl,rfl⟩;have p:n/64<nW T.length:=by unfold nW;omega
  have m:∀c,s.p=some ⟨c,0,none⟩->(∀j,j<1->f.cell? ⟨c,((n/64:Nat):Int).toNat*1+j,none⟩=(mO T)[((n/64:Nat):Int).toNat*1+j]?)->f.cell? ⟨c,((n/64:Nat):Int).toNat*1,none⟩=some (.int .u64 ((hR T (n/64):Nat):Int)):=by
   intro c _ d;have:=d 0 bN;rw[l2]at this;rw[this,fY,dt,vU p]
  refine⟨_,_,rfl,_,rfl,s,h1.cell 1,bw.el 1 h1 rfl bu bu (λc k d=>⟨_,m c k d,bw.el 1 h1 rfl bu bu (λb2 l _=>?_)⟩)⟩;rw[ZI (qu _ _) (tH (k4 _ bN))];refine bw.st h1.swap l (by rw[tI,dt,fY];exact p) (λt g=>?_);have e:jz T (n:Int) (!T.getD n false)=(T.set n (!T.getD n false),true):=by
   unfold jz;rw[bJ,dt];rintro(a|a|a);·omega
   ·omega
   ·rw[dt]at a;revert a;generalize T.getD n false=y;cases y<;>decide
  rw[e];refine⟨rfl,jM.mk (by rw[eh];exact hn) (by rw[eh];exact hb) ?_⟩;rw[dt,fY,ZW r]at g;rw[eh];exact g.swap
def Ex{w:bI}{o:Obj}(ho:qt o)(g:w.heap[2]?=some o){x:Nat}(d:x≠0)(hx:x<18446744073709551616):Calls P KR #[.int .u64 (x:Nat)] w (cC λv w'=>v=Iv (Lib.ctz 64 x:Nat)/\w'=w):=by
 apply ZF;unfold NW;refine eC (λe=>absurd e bu) (λ_=>?_);obtain⟨b,hk⟩:=Lib.lowest_bit 64 x d hx;obtain⟨f,c⟩:=Lib.deBruijn64_at _ hk;rw[ZO x _ hx d b];have a:=ho.cell g f;rw[c]at a;refine⟨bN,⟨2,0,none⟩,rfl,⟨bu,by exact_mod_cast f⟩,((Lib.ctz 64 x:Nat):Int),?_,?_,rfl⟩;·rw[cj,fz,fY,dt];exact a
 ·rw[cX bu bu]
def Z2{T:bA Bool}:∀ {n i:Nat},(∀j,j<i->T[j]?=some true)->T[i]?=some false->firstFree n T=some (n+i):=by
 induction T with
 |nil=>intro n i _ h;simp at h
 |cons b T c=>
  intro n i h1 h2;unfold firstFree;cases i with
  |zero=>simp only[k1,fT]at h2;subst h2;rfl
  |succ i=>
   have a:=h1 0 bu;simp only[k1,fT]at a;subst a;rw[bK rfl,c (n:=n+1) (i:=i) (λj d=>by simpa using h1 (j+1) bu) (by simpa using h2)];congr 1;omega
def Z3{T:bA Bool}:∀ {n:Nat},(∀j,j<T.length->T[j]?=some true)->firstFree n T=none:=by
 induction T with
 |nil=>intro n _;rfl
 |cons b T d=>
  intro n h;have a:=h 0 (by simp);simp only[k1,fT]at a;subst a;unfold firstFree;rw[bK rfl];exact d (λj c=>by simpa using h (j+1) (by simpa using c))
def Z4{o:Obj}(ho:qt o){q:Nat}(h:Sep E L w)(J:L[q]?=some (jM b T))(D:w.heap[2]?=some o):Calls P KN #[Pb b,Iv 0,.bool false] w
  (cC λv w'=>v=Iv (match firstFree 0 T with|some i=>(i:Int)|none=> -1)/\w'=w):=by
 apply Zz;unfold NQ q9 qK qL qO qQ qW;obtain⟨s,hn,hb,h1⟩:=jM.get (h.fr q J);have Q:nW T.length<=2000:=by unfold nW;omega
 refine⟨_,rfl,s,h1.cell 1,?_⟩;refine⟨λx w'=>w'=w/\∃j:Nat,x=j/\j<=nW T.length/\∀i,i<64*j->i<T.length->T[i]?=some true,λx _=>(nW T.length-x).toNat,⟨rfl,0,rfl,dX _,λi f=>bu⟩,?_⟩;rintro _ x K ⟨rfl,j,rfl,S,c⟩;have z:i64.wrap ((j:Int)+1)=((j+1:Nat):Int):=by rw[cX bu bu];omega
 refine cU (λO=>?_) (λN=>?_)
 ·have r:j<nW T.length:=by omega
  refine⟨_,rfl,s,h1.cell 1,bw.el 1 h1 rfl bu bu (λR M H=>⟨((hR T j:Nat):Int),?_,?_⟩)⟩
  ·have:=H 0 bN;rw[l2]at this;rw[this,fY,dt,vU r]
  ·generalize A:(18446744073709551615 ^^^ hR T j)=y;have p:y<18446744073709551616:=by rw[<- A];exact Hj (n:=64) bN (qu _ _)
   have d:∀k,k<64->y.testBit k= !T.getD (64*j+k) false:=λk hk=>by rw[<- A,ZN hk,tJ _ _ _ hk]
   have next:(∀i,i<64*(j+1)->i<T.length->T[i]?=some true)->(∃B:Nat,i64.wrap ((j:Int)+1)=B/\B<=nW T.length/\∀i,i<64*B->i<T.length->T[i]?=some true):=λg=>⟨j+1,z,r,g⟩
   have hm:eR 0 0=0:=by decide
   have F:i64.wrap ((j:Int)*2^(min (6:Int).toNat 64))=((64*j:Nat):Int):=by
    have:((j:Int)*2^(min (6:Int).toNat 64))=((64*j:Nat):Int):=by
     show(j:Int)*2^6=_;omega
    rw[this];exact cX bu bu
   refine⟨λx w'=>x=(y:Nat)/\w'=K,?_,?_⟩
   ·refine bT rfl ⟨?_,rfl⟩;rw[ZJ (qu _ _),A]
   ·rintro _ _ w2 ⟨rfl,rfl⟩;rw[hm,F];refine⟨λx w'=>x=(y:Nat)/\w'=w2,⟨bN,?_⟩,?_⟩
    ·rw[cX bu bu];refine hq (λg=>absurd g bu) (λ_=>gv (λg=>absurd g bu) (λ_=>⟨rfl,rfl⟩))
    ·rintro _ _ U ⟨rfl,rfl⟩;refine eC (λe=>?_) (λe=>?_)
     ·
      have e:y=0:=by omega
      refine⟨⟨rfl,next (λi f a=>?_)⟩,by dsimp only;rw[z];omega⟩;rcases hE i (64*j)with h2|h2;·exact c i h2 a
      ·have:=d (i-64*j) bu;rw[e,Nat.zero_testBit,show 64*j+(i-64*j)=i by omega,dC,ea a]at this;rw[ea a];simp at this;rw[this]
     ·have u:y≠0:=by omega
      refine⟨bN,use (Ex ho D u p) ?_⟩;rintro _ V ⟨rfl,rfl⟩;obtain⟨hk,m,C⟩:=ZM u p;generalize Lib.ctz 64 y=k at*
      have G:i64.wrap ((((64*j:Nat):Int))+((k:Nat):Int))=((64*j+k:Nat):Int):=by rw[cX bu bu];omega
      refine⟨_,rfl,_,rfl,_,h1.cell 0,?_⟩;rw[G];have t:∀i,i<64*j+k->i<T.length->T[i]?=some true:=by
       intro i f a;rcases hE i (64*j)with h2|h2;·exact c i h2 a
       ·have:=C (i-64*j) bu;rw[d _ bu,show 64*j+(i-64*j)=i by omega,dC,ea a]at this;rw[ea a];simp at this;rw[this]
      refine cU (λl=>?_) (λI=>?_)
      ·have l:64*j+k<T.length:=by omega
       have:T[64*j+k]?=some false:=by
        rw[d _ hk,dC,ea l]at m;rw[ea l];simp at m;rw[m]
       rw[Z2 (n:=0) (λi f=>t i f bu) this];refine⟨?_,rfl⟩;dsimp only;rw[fz]
      ·refine⟨⟨rfl,next (λi f a=>t i bu a)⟩,by dsimp only;rw[z];omega⟩
 ·have:j=nW T.length:=by omega
  subst this;rw[Z3 (λi f=>c i (by unfold nW;omega) f)];exact⟨rfl,rfl⟩
def gM(p:Nat)(T:bA Bool):Asn:=fo λb:Nat=>cL (T.length<=1024) (star (bD p [Pb b]) (jM b T))
def gM.get{p:Nat}{T:bA Bool}(h:Sep E (gM p T::L) w):∃b,T.length<=1024/\Sep E (bD p [Pb b]::jM b T::L) w:=by
 obtain⟨b,h⟩:=Sep.ex.1 h;obtain⟨hn,h⟩:=Sep.cL.1 h;exact⟨b,hn,Sep.star.1 h⟩
def gM.mk{p b:Nat}{T:bA Bool}(hn:T.length<=1024)(h:Sep E (bD p [Pb b]::jM b T::L) w):Sep E (gM p T::L) w:=Sep.ex.2 ⟨b,Sep.cL.2 ⟨hn,Sep.star.2 h⟩⟩
def Z5(n:Int)(h:Sep E L w):Calls P Jp #[Iv n] w (cC λv w'=>∃p,v=Pb p/\Sep E (gM p (lB n)::L) w'):=by
 apply WR;unfold Lw qR;refine use (ZZ (min1 n 1024) h) ?_;rintro _ a ⟨b,rfl,h1⟩;have e:(min (max (min1 n 1024) 0).toNat 65536)=min (max n 0).toNat 1024:=by unfold min1;split<;>omega
 rw[e]at h1;exact⟨_,rfl,Al.i h1 (λp w2 h2=>⟨p,rfl,gM.mk (by unfold lB;rw[mW];omega) h2⟩)⟩
variable{p:Nat}
def Z6{o:Obj}(ho:qt o)(h:Sep E (gM p T::L) w)(f:w.heap[2]?=some o):Calls P tu #[Pb p] w
  (cZ E (.tuple #[Iv (gf T).2.1,Iv (gf T).2.2]) (gM p (gf T).1::L)):=by
 apply Zk;unfold NA qF qQ qZ;obtain⟨b,hb,h2⟩:=gM.get h;refine⟨_,rfl,_,h2.cell 0,use (Z4 ho (q:=1) h2 rfl f) ?_⟩;rintro _ w2 ⟨rfl,rfl⟩;refine⟨_,rfl,?_⟩;unfold gf;cases hf:firstFree 0 T with
 |none=>exact cU (λ_=>⟨rfl,h⟩) (λa=>absurd a bN)
 |some i=>
  dsimp only;obtain⟨_,c,_⟩:=B1 hf;rw[HH]at c;have g:=(c2.1 c).1;refine cU (λa=>absurd a bu) (λ_=>⟨_,rfl,_,h2.cell 0,use (N4 h2.swap (i:Int) true) ?_⟩);rintro _ j ⟨rfl,d⟩;have e:jz T (i:Int) true=(T.set i true,true):=by
   unfold jz;rw[bJ,dt];rintro(a|a|a);·omega
   ·omega
   ·rw[dt,dC,c]at a;cases a
  rw[e]at d;exact⟨_,rfl,rfl,gM.mk (by rw[eh];exact hb) d.swap⟩
def Z7(h:Sep E (gM p T::L) w)(i:Int):Calls P Kl #[Pb p,Iv i] w
  (cZ E (Iv (nK T i).2) (gM p (nK T i).1::L)):=by
 apply Yz;unfold MU qF qQ qZ qh;obtain⟨b,hb,h2⟩:=gM.get h;refine⟨λx w'=>w'=w/\x=decide (i<0\/(T.length:Int)<=i),cU (λc=>⟨rfl,by rw[dK (.inl c)]⟩) (λc=>⟨_,rfl,_,h2.cell 0,use (Z0 (q:=1) h2 rfl) ?_⟩),?_⟩
 ·rintro _ w2 ⟨rfl,rfl⟩;refine⟨_,rfl,rfl,?_⟩;by_cases e:(T.length:Int)<=i;·rw[dK (show i≥(T.length:Int)from e),dK (.inr e)]
  ·rw[dq (show ¬ i≥(T.length:Int)from e),dq bu]
 ·rintro _ x w2 ⟨rfl,rfl⟩;unfold nK;by_cases a:i<0\/(T.length:Int)<=i;·rw[dK a,bK a];exact⟨rfl,h⟩
  ·rw[dq a,bJ a];refine⟨_,rfl,_,h2.cell 0,use (N4 h2.swap i false) ?_⟩;rintro _ f ⟨rfl,d⟩;refine⟨_,rfl,?_⟩;unfold jz at d ⊢;by_cases hf:T.getD i.toNat false=false
   ·rw[bK (.inr (.inr hf))]at d ⊢;rw[bK hf];exact⟨rfl,gM.mk hb d.swap⟩
   ·have hn:¬ (i<0\/(T.length:Int)<=i\/T.getD i.toNat false=false):=by
     rintro(c|c|c);·exact a (.inl c)
     ·exact a (.inr c)
     ·exact hf c
    rw[bJ hn]at d ⊢;rw[bJ hf];exact⟨rfl,gM.mk (by rw[eh];exact hb) d.swap⟩
end Go.Mp
namespace Go.Sp
open Go Go.Vc
variable{E:Env}{L:cr}{w:bI}
def Ints(E:Env)(L:cr)(s:Sl)(gs:bS):Prop:=s.n=gs.length/\∀w,Sep E L w->∀(i:Nat) x,gs[i]?=some x->∃a,s.p=some a/\w.cell? (a.add i)=some (.int .i64 x)
def Ints.of{L':cr}{s:Sl}{gs:bS}(h:Ints E L s gs)(hw:∀w,Sep E L' w->Sep E L w):Ints E L' s gs:=⟨h.1,λw a=>h.2 w (hw w a)⟩
def Ints.cons{A:Asn}{s:Sl}{gs:bS}(h:Ints E L s gs):Ints E (A::L) s gs:=h.of (λ_ a=>a.tail)
def Ints.el{s:Sl}{gs:bS}{i x:Int}{F:Int->Prop}(b:Ints E L s gs)(h:Sep E L w)(k:Nat)(g:i=k)(hx:gs[k]?=some x)(f:F x):cF s.p s.n i 1 λa=>∃v:Int,w.cell? a=some (.int .i64 v)/\F v:=by
 have d:=(c2.1 hx).1;obtain⟨a,hp,c⟩:=b.2 w h k x hx;have:=b.1;refine⟨a,hp,⟨bu,bu⟩,x,?_,f⟩;have e:i.toNat*1=k:=by omega
 rw[e];exact c
def Ints.row{s:Sl}{gs:bS}(hn:s.n=gs.length):Ints E (bw s 1 (bC gs)::L) s gs:=by
 refine⟨hn,λw h i x hx=>?_⟩;have a:=(c2.1 hx).1;obtain⟨b,spare,hp,h1,_,_,h2⟩:=bw.iB h bu;refine⟨_,hp,?_⟩;rw[cj,fz,bw.cell h2 (by rw[h1];omega)];simp[bC,hx]
def Ints.at_{s:Sl}{gs:bS}{q:Nat}(a:L[q]?=some (bw s 1 (bC gs)))(hn:s.n=gs.length):Ints E L s gs:=
 (Ints.row (L:=L.eraseIdx q) hn).of (λ_ h=>h.fr q a)
def Ints.h0{b c:Nat}{gs:bS}{q:Nat}(a:L[q]?=some (bD b (bC gs))):Ints E L ⟨some ⟨b,0,none⟩,gs.length,c⟩ gs:=by
 refine⟨rfl,λw h i x hx=>⟨_,rfl,?_⟩⟩;rw[cj,fz,h.cellAt q a,z1,hx];rfl
def c4{k:Nat}(h:k<4611686018427387904:=by omega):i64.wrap ((k:Int)+1)=((k+1:Nat):Int):=by rw[cX bu bu];omega
def take_succ{α:Type}{l:bA α}{k:Nat}{c:α}(h:l[k]?=some c):l.take (k+1)=l.take k++[c]:=by rw[l0,h];rfl
def lL{α:Type}{f:α->bA bH}{m n:Nat}{l:bA α}{i:Int}{F:Addr->Prop}{b q:Nat}(hf:∀a,(f a).length=m)(h:Sep E L w)(o:L[q]?=some (bD b (bO f l)))(hn:l.length=n)(g:0<=i)(h1:i<n)(k:∀a,l[i.toNat]?=some a->(∀j v,(f a)[j]?=some v->w.cell? ⟨b,i.toNat*m+j,none⟩=some v)->F ⟨b,i.toNat*m,none⟩):cF (some ((⟨b,0,none⟩:Addr).add 0)) n i m F:=by
 have c:i.toNat<l.length:=by omega
 refine⟨_,rfl,⟨g,h1⟩,?_⟩;rw[cj,cj,fz];refine k _ (ea c) (λj v d=>?_);have e:j<m:=by have:=(c2.1 d).1;rwa[hf]at this
 rw[h.cellAt q o,tE hf (ea c) j e];exact d
end Go.Sp
namespace Go.Mp
open Go Go.Vc Go.Proofs
variable{K:bj0}{w:bI}
variable(K w)
def N5(bQ cg:Int)(bU:Sl):=
 qR CC #[Iv bQ,Iv cg,Sv bU] w λd b=>Al (.cells #[Pv d,aP8] 71) (λa c=>K (Pv (some a)) c) b
def N6(v:cm):=
 NN v λa=>qZ w a 0 λb=>K (Pv b) w
def N7(v:cm)(E F G H I:Int):=
 Al (.cells #[Iv E,Iv F,Iv G,Iv H,Iv I] 37) (λb w2=>zW w2 λc ar=>Dr (λY=>qL Y b 0 λal=>Calls P Jk #[] Y λaq g=>∃ap:bX Nat,aq=.returned (.map ap)/\zH g b 0 (Iv al) λau=>∃h:bH,gE P 86 (.map ap) (Iv al) false g h/\∃k:Bool,kE P .neq 85 h .nilFunc k/\cond k (zL g b λaa ab ad ae af=>fe P h #[Pv v,.agg #[Iv aa,Iv ab,Iv ad,Iv ae,Iv af]] g λB X=>∃s:Int,∃t:Int,∃u:Sl,B=.returned (.agg #[Iv s,Iv t,Sv u])/\qU [Iv s,Iv t,Sv u] c X λm=>zI m c λJ L M=>K (.agg #[Iv J,Iv L,Sv M]) m) (Dr (λn=>zZ n b λe x=>Calls P Jl #[] n λC d=>∃i:bX Nat,C=.returned (.map i)/\zH d b 1 (Iv x) λav=>zH d b 0 (Iv e) λaw=>∃f:bH,gE P 89 (.map i) (Iv e) false d f/\qR p7 #[Pv v,Iv x] d λy a=>∃z:bH,gE P 89 (.map i) (Iv e) false a z/\(z:bH)=f/\zH a b 0 (Iv e) λax=>∃l:Bool,kE P .eql 88 f .nilFunc l/\cond l (qU [Iv 1,Iv 0,aP8] c a λo=>zI o c λN O Q=>K (.agg #[Iv N,Iv O,Sv Q]) o) (cond y.isNone (qU [Iv 2,Iv 0,aP8] c a λp=>zI p c λR S T=>K (.agg #[Iv R,Iv S,Sv T]) p) (zL a b λag ah ai aj ak=>Al (.cells #[Iv ag,Iv ah,Iv ai,Iv aj,Iv ak,Pv v,Pv y,Iv 0,Iv 0,aP8] 93) (λj Z=>fe P f #[Pv (some j)] Z λD q=>D=.returned (.tuple #[])/\NN (some j) λA=>zI q (A.add 7) λam an ao=>qU [Iv am,Iv an,Sv ao] c q λr=>zI r c λU V W=>K (.agg #[Iv U,Iv V,Sv W]) r) a))) g)) ar) w
def N8(v:cm):=
 NN v λF=>qK w F 1 λx=>qf ⟨none,0,0⟩ 0 w λE k j i=>e7 j x.n (qW x j 2 λa9=>zq i a9 λr s=>Al (.cells #[Iv 0,Pv none] 95) (λc m=>qU [Iv r,Pv s] c m λe=>zq e c λt u=>zz e λa n=>qU [Iv t,Iv 0,.bool (!u.isNone)] a n λb=>qg (λd=>qy b a 2 λy=>cond y (qZ b c 1 λz=>qQ Jm #[Pv z] b λA o=>St (a.add 1) (Iv A) (λp=>d p) o) (d b)) λf=>qa f a λB C D=>Al (.cells #[Iv B,Iv C,.bool D] 42) (λl q=>∃h:Sl,∃g:bI,Sem.run P (Builtin.append_ #[39,39] 39 #[Sv k,.slice (some l) 1 1]) q=.ok (Sv h) g/\(E h (i64.wrap (j+1)) g)) f) i) (K (Sv k) i)
def N9(v:cm)(pid:Int):=
 qg (λa=>ej pid 0 (K (Pv none) w) (NN v λa4=>qK w a4 1 λd=>cond (decide (pid≥((d.n:Nat):Int))) (K (Pv none) w) (a w))) λw2=>NN v λb=>qK w2 b 1 λe=>qW e pid 2 λc=>qZ w2 c 1 λf=>K (Pv f) w2
def Oa(s:cm):=
 qJ CD #[Pv s,Iv 0,Iv 65536] w λb a=>K (Sv b) a
def vW(bQ cg:Int)(bU l:Sl):=
 qR p5 #[Iv bQ,Iv cg,Sv bU] w λD C=>qf ⟨none,0,0⟩ 0 C λB a g f=>e7 g l.n (qW l g 5 λh=>zL f h λn o p q r=>Al (.cells #[Iv 0,Iv 0,Iv 0,Iv 0,Iv 0] 37) (λb j=>qU [Iv n,Iv o,Iv p,Iv q,Iv r] b j λc=>zL c b λs t u v x=>zx la #[Pv D,.agg #[Iv s,Iv t,Iv u,Iv v,Iv x]] c λy z A k=>Al (.cells #[Iv y,Iv z,Sv A] 33) (λi m=>∃e:Sl,∃d:bI,Sem.run P (Builtin.append_ #[60,60] 60 #[Sv a,.slice (some i) 1 1]) m=.ok (Sv e) d/\(B e (i64.wrap (g+1)) d)) k) f) (K (Sv a) f)
def Z8:=
 m0 (λa w2=>∃b:bI,Sem.run P (Instr.mapUpdate 86 (.map (some a)) (Iv 0) (.func (.func yu) #[] #[])) w2=.ok () b/\∃c:bI,Sem.run P (Instr.mapUpdate 86 (.map (some a)) (Iv 1) (.func (.func yv) #[] #[])) b=.ok () c/\∃d:bI,Sem.run P (Instr.mapUpdate 86 (.map (some a)) (Iv 2) (.func (.func yw) #[] #[])) c=.ok () d/\∃e:bI,Sem.run P (Instr.mapUpdate 86 (.map (some a)) (Iv 3) (.func (.func yx) #[] #[])) d=.ok () e/\∃f:bI,Sem.run P (Instr.mapUpdate 86 (.map (some a)) (Iv 12) (.func (.func yy) #[] #[])) e=.ok () f/\∃g:bI,Sem.run P (Instr.mapUpdate 86 (.map (some a)) (Iv 13) (.func (.func yz) #[] #[])) f=.ok () g/\K (.map (some a)) g) w
def Z9:=
 m0 (λa w2=>∃c:bI,Sem.run P (Instr.mapUpdate 89 (.map (some a)) (Iv 4) (.func (.func yA) #[] #[])) w2=.ok () c/\∃d:bI,Sem.run P (Instr.mapUpdate 89 (.map (some a)) (Iv 11) (.func (.func yB) #[] #[])) c=.ok () d/\∃e:bI,Sem.run P (Instr.mapUpdate 89 (.map (some a)) (Iv 5) (.func (.func yC) #[] #[])) d=.ok () e/\∃f:bI,Sem.run P (Instr.mapUpdate 89 (.map (some a)) (Iv 6) (.func (.func yD) #[] #[])) e=.ok () f/\∃g:bI,Sem.run P (Instr.mapUpdate 89 (.map (some a)) (Iv 7) (.func (.func yE) #[] #[])) f=.ok () g/\∃h:bI,Sem.run P (Instr.mapUpdate 89 (.map (some a)) (Iv 8) (.func (.func yF) #[] #[])) g=.ok () h/\∃i:bI,Sem.run P (Instr.mapUpdate 89 (.map (some a)) (Iv 9) (.func (.func yG) #[] #[])) h=.ok () i/\∃b:bI,Sem.run P (Instr.mapUpdate 89 (.map (some a)) (Iv 10) (.func (.func yH) #[] #[])) i=.ok () b/\K (.map (some a)) b) w
def Ob(s:cm):=
 NN s λa=>qZ w a 1 λc=>qQ Jn #[Pv c] w λd b=>K (Iv d) b
def Oc(s:cm)(b k:Int):=
 NN s λy=>qZ w y 1 λA=>qJ yJ #[Pv A,Iv b,Iv k] w λv z=>qf ⟨none,0,0⟩ 0 z λx c a h=>e7 a v.n (qW v a 1 λi=>qD h i λo=>zy tk #[Pv s,Iv o] h λp q r t B l=>zu l λd m=>qU [Iv p,Iv q,.bool r,.bool t] d m λe=>qL e d 1 λu=>qC #[Iv u] e λj n=>∃g:Sl,∃f:bI,Sem.run P (Builtin.append_ #[22,22] 22 #[Sv c,.slice (some j) 1 1]) n=.ok (Sv g) f/\(x g (i64.wrap (a+1)) f)) (K (Sv c) h)
def Od(v:cm)(c d e f g:Int):=
 Al (.cells #[Iv c,Iv d,Iv e,Iv f,Iv g] 37) (λo w2=>zW w2 λh p=>Dr (λb=>NN v λn=>qZ b n 0 λr=>qL b o 1 λs=>qj Js #[Pv r,Iv s] b λl m q=>qU [Iv m,Iv (eR l 0),aP8] h q λa=>zI a h λi j k=>K (.agg #[Iv i,Iv j,Sv k]) a) p) w
def Oe(v:cm)(t u x y z:Int):=
 Al (.cells #[Iv t,Iv u,Iv x,Iv y,Iv z] 37) (λd w2=>zW w2 λj X=>qh (λp=>Dr (λh=>qL h d 1 λL=>cond (L !=0) (NN v λq=>qZ h q 0 λM=>qL h d 1 λn=>qR p8 #[Pv M] h λN k=>zH k d 1 (Iv n) λY=>qF ku #[Pv N,Iv n] k λO G=>p O G) (p false h)) X) λi J=>NN v λr=>qK J r 1 λo=>qO 0 J λc b f=>e7 b o.n (qW o b 2 λa28=>zq f a28 λP Q=>Al (.cells #[Iv 0,Pv none] 95) (λe H=>qU [Iv P,Pv Q] e H λa=>cond i (qZ a e 1 λR=>cond (!R.isNone) (qL a e 0 λS=>qL a d 1 λT=>cond (S==T) (qU [Iv 4,Iv 0,aP8] j a λl=>zI l j λA B C=>K (.agg #[Iv A,Iv B,Sv C]) l) ((c (i64.wrap (b+1)) a))) ((c (i64.wrap (b+1)) a))) ((c (i64.wrap (b+1)) a))) f) (Dr (λg=>NN v λs=>qZ g s 0 λU=>qL g d 1 λV=>qQ Jt #[Pv U,Iv V] g λW I=>qU [Iv W,Iv 0,aP8] j I λm=>zI m j λD E F=>K (.agg #[Iv D,Iv E,Sv F]) m) f)) w
def Of(v:cm)(d e f g h:Int):=
 Al (.cells #[Iv d,Iv e,Iv f,Iv g,Iv h] 37) (λc w2=>zW w2 λi q=>Dr (λa=>NN v λp=>qZ a p 0 λr=>qL a c 1 λs=>qL a c 2 λt=>qL a c 3 λn=>qQ Ju #[Pv r,Iv s,Iv t,Iv n] a λo m=>qU [Iv o,Iv 0,aP8] i m λb=>zI b i λj k l=>K (.agg #[Iv j,Iv k,Sv l]) b) q) w
def Og(v:cm)(k l m n o:Int):=
 Al (.cells #[Iv k,Iv l,Iv m,Iv n,Iv o] 37) (λc w2=>zW w2 λb M=>Dr (λj=>NN v λL=>qZ j L 0 λN=>qL j c 1 λJ=>qR p8 #[Pv N] j λC B=>zH B c 1 (Iv J) λO=>qF ku #[Pv C,Iv J] B λD a=>dO D (qU [Iv 2,Iv 0,aP8] b a λd=>zI d b λp q r=>K (.agg #[Iv p,Iv q,Sv r]) d) (NN v λa20=>qK a a20 1 λE=>cond (decide (((E.n:Nat):Int)≥64)) (qU [Iv 3,Iv 0,aP8] b a λe=>zI e b λs t u=>K (.agg #[Iv s,Iv t,Sv u]) e) (Dr (λf=>qL f c 1 λi=>qR Jv #[] f λF g=>zH g c 1 (Iv i) λP=>zx CM #[Pv v,Iv i,Pv F] g λG H I A=>qU [Iv G,Iv H,Sv I] b A λh=>zI h b λx y z=>K (.agg #[Iv x,Iv y,Sv z]) h) a))) M) w
def Oh(v:cm)(c d e f g:Int):=
 Al (.cells #[Iv c,Iv d,Iv e,Iv f,Iv g] 37) (λn w2=>zW w2 λh o=>Dr (λb=>NN v λm=>qZ b m 0 λq=>qL b n 1 λr=>qQ Jw #[Pv q,Iv r] b λl p=>qU [Iv 0,Iv l,aP8] h p λa=>zI a h λi j k=>K (.agg #[Iv i,Iv j,Sv k]) a) o) w
def Oi(v:cm)(c d e f g:Int):=
 Al (.cells #[Iv c,Iv d,Iv e,Iv f,Iv g] 37) (λh w2=>zW w2 λi p=>Dr (λa=>NN v λo=>qZ a o 0 λq=>qL a h 1 λr=>qL a h 2 λs=>qQ Jx #[Pv q,Iv r,Iv s] a λn m=>qU [Iv 0,Iv n,aP8] i m λb=>zI b i λj k l=>K (.agg #[Iv j,Iv k,Sv l]) b) p) w
def Oj(c:cm):=
 Dr (λb=>NN c λr=>qZ b r 5 λs=>NN s λa4=>qZ b a4 0 λt=>NN c λg=>qL b (g.add 0) 2 λq=>qR p8 #[Pv t] b λk j=>zH j (g.add 0) 2 (Iv q) λu=>qF ku #[Pv k,Iv q] j λl d=>dO l (NN c λe=>St ((e.add 7).add 0) (Iv 2) (λh=>K aP4 h) d) (Dr (λa=>NN c λf=>qZ a f 5 λm=>NN m λa20=>qK a a20 1 λn=>NN c λa22=>qL a (a22.add 0) 1 λo=>NN c λa24=>qL a (a24.add 0) 2 λp=>qW n o 2 λa26=>St (a26.add 0) (Iv p) (λi=>K aP4 i) a) d)) w
def Ol(c:cm):=
 Dr (λa=>NN c λb=>qZ a b 5 λe=>NN c λa4=>qL a (a4.add 0) 1 λf=>qE CN #[Pv e,Iv f] a λd=>K aP4 d) w
def Om(c:cm):=
 qF yM #[Pv c] w λl e=>cond l (Dr (λa=>NN c λa5=>qZ a a5 6 λm=>NN c λk=>qL a (k.add 0) 3 λn=>NN c λa9=>qL a (a9.add 0) 3 λh=>NN c λb=>qL a (b.add 0) 2 λi=>qQ yN #[Pv m,.agg #[Iv n,Iv (i64.wrap (h+i)),Iv 1,Iv 0,Iv 0,.bool true]] a λj f=>NN c λd=>St ((d.add 7).add 0) (Iv j) (λg=>K aP4 g) f) e) (K aP4 e)
def On(c:cm):=
 qF yM #[Pv c] w λP r=>dO P (K aP4 r) (qg (λM=>Dr (λd=>NN c λN=>qL d (N.add 0) 4 λQ=>ej Q 0 (NN c λi=>St ((i.add 7).add 0) (Iv 1) (λs=>K aP4 s) d) (NN c λf=>qL d (f.add 0) 4 λg=>NN c λj=>qZ d j 5 λy=>NN y λk=>qZ d k 0 λz=>qQ Jy #[Pv z] d λA a=>zH a (f.add 0) 4 (Iv g) λR=>cond (decide (g≥A)) (NN c λa22=>St ((a22.add 7).add 0) (Iv 1) (λt=>K aP4 t) a) (NN c λa24=>qL a (a24.add 0) 2 λh=>NN c λa26=>qZ a a26 5 λB=>NN B λa28=>qZ a a28 0 λC=>NN c λl=>qL a (l.add 0) 4 λD=>qQ Jz #[Pv C,Iv D] a λE e=>zH e (a24.add 0) 2 (Iv h) λS=>cond (decide (h>E)) (NN c λa36=>St ((a36.add 7).add 0) (Iv 1) (λu=>K aP4 u) e) (M e)))) r) λO=>Dr (λb=>NN c λm=>qZ b m 6 λF=>NN c λa41=>qL b (a41.add 0) 3 λG=>NN c λn=>qL b (n.add 0) 3 λH=>NN c λo=>qL b (o.add 0) 2 λI=>NN c λp=>qL b (p.add 0) 4 λJ=>qQ yN #[Pv F,.agg #[Iv G,Iv (i64.wrap (H+I)),Iv 2,Iv J,Iv 0,.bool true]] b λL v=>NN c λq=>St ((q.add 7).add 0) (Iv L) (λx=>K aP4 x) v) O)
def Oo(c:cm):=
 qF yM #[Pv c] w λn g=>cond n (Dr (λa=>NN c λa5=>qZ a a5 6 λo=>NN c λm=>qL a (m.add 0) 3 λp=>NN c λa9=>qL a (a9.add 0) 3 λj=>NN c λe=>qL a (e.add 0) 2 λk=>qJ CO #[Pv o,Iv p,Iv (i64.wrap (j+k))] a λd b=>NN c λf=>qZ b f 5 λl=>qE CP #[Pv l,Sv d] b λh=>NN c λa20=>St ((a20.add 7).add 1) (Iv ((d.n:Nat):Int)) (λi=>K aP4 i) h) g) (K aP4 g)
def Oq(c:cm):=
 zk CQ #[Pv c] w λj V W X Y Z aa y U=>zg U λd r=>qU [Iv V,Iv W,Iv X,Iv Y,Iv Z,.bool aa] d r λe=>dO y (NN c λk=>St ((k.add 7).add 0) (Iv 14) (λs=>K aP4 s) e) (qg (λf=>NN c λl=>qZ e l 6 λz=>zy tk #[Pv z,Iv j] e λA B C D E t=>zu t λq u=>qU [Iv A,Iv B,.bool C,.bool D] q u λa=>dO E (qL a d 2 λF=>cond (F==1) (K aP4 a) (f a)) (f a)) λg=>zR g d λG H I J L M=>qp CR #[Pv c,Iv j,.agg #[Iv G,Iv H,Iv I,Iv J,Iv L,.bool M]] g λN O h=>dO O (K aP4 h) (Dr (λb=>NN c λm=>qZ b m 5 λP=>NN P λn=>qZ b n 0 λQ=>NN c λo=>qL b (o.add 0) 2 λR=>qo JA #[Pv Q,Iv N,Iv (dy .i64 R 15)] b λS ab i=>NN c λa53=>qZ i a53 6 λT=>qF CS #[Pv T,Iv j] i λad v=>NN c λp=>St ((p.add 7).add 1) (Iv (i64.wrap S)) (λx=>K aP4 x) v) h))
def Ot(c:cm):=
 Al (.cells #[Pv c] 91) (λa w2=>qb w2 a λan=>zk CQ #[Pv an] w2 λao ap aq ar I J L M am=>qC #[Iv 0] am λi A=>zg A λj B=>St i (Iv ao) (λC=>qU [Iv ap,Iv aq,Iv ar,Iv I,Iv J,.bool L] j C λe=>qg (λh=>qh (λm=>qb e a λO=>NN O λa28=>qL e (a28.add 0) 3 λQ=>ej Q 0 (m true e) (qb e a λR=>NN R λr=>qL e (r.add 0) 3 λS=>m (decide (S>255)) e)) λN b=>cond N (qb b a λT=>NN T λs=>St ((s.add 7).add 0) (Iv 1) (λD=>h D) b) (dO M (qb b a λU=>NN U λt=>St ((t.add 7).add 0) (Iv 14) (λE=>h E) b) (qy b j 5 λV=>dO V (qb b a λW=>NN W λa41=>St ((a41.add 7).add 0) (Iv 15) (λF=>h F) b) (h b)))) λf=>qb f a λX=>NN X λa44=>qL f (a44.add 7) 0 λY=>cond (Y !=0) (K aP4 f) (∃l:bj0,(qL f j 2 λZ=>cond (Z==2) (l (.func (.func JD) #[] #[Pv (some a),Pv (some i),Pv (some j)]) f) (l (.func (.func JB) #[] #[Pv (some a),Pv (some i)]) f))/\(∀al:Nat->bH,∀g:bH,∀n:bI,l g n->fe P g #[] n λz o=>∃p:Int,∃q:Bool,z=.returned (.tuple #[Iv p,.bool q])/\cond q (Dr (λd=>qb d a λaa=>NN aa λa57=>qZ d a57 5 λab=>NN ab λu=>qZ d u 0 λad=>qb d a λae=>NN ae λv=>qL d (v.add 0) 2 λaf=>qb d a λag=>NN ag λx=>qL d (x.add 0) 3 λah=>qQ JF #[Pv ad,Iv p,Iv (dy .i64 af 15),.int .u8 (IntKind.u8.wrap ah)] d λau G=>Dr (λk=>qb k a λai=>NN ai λy=>qZ k y 6 λaj=>qD k i λak=>qF CS #[Pv aj,Iv ak] k λav H=>K aP4 H) G) o) (K aP4 o)))) B) w
def Ou(c:cm):=
 NN c λB=>qZ w B 5 λF=>NN F λa3=>qK w a3 1 λG=>cond (decide (((G.n:Nat):Int)≥64)) (NN c λa5=>St ((a5.add 7).add 0) (Iv 3) (λD=>K aP4 D) w) (NN c λC=>qZ w C 6 λH=>qR JG #[Pv H] w λe E=>qJ ys #[Pv e] E λf l=>qO 0 l λg d b=>e7 d f.n (qW f d 1 λa20=>qD b a20 λp=>NN c λa22=>qZ b a22 5 λq=>NN q λa24=>qZ b a24 0 λr=>qQ vC #[Pv r,Iv p,Iv 1] b λI m=>(g (i64.wrap (d+1)) m)) (Dr (λa=>NN c λh=>qZ a h 5 λs=>NN c λa32=>qZ a a32 5 λt=>NN t λi=>qK a i 1 λu=>NN c λa36=>qL a (a36.add 0) 1 λv=>qW u v 2 λj=>qL a j 0 λx=>zx CM #[Pv s,Iv x,Pv e] a λy z A n=>NN c λk=>qU [Iv y,Iv z,Sv A] (k.add 7) n λo=>K aP4 o) b))
def Ov(t:cm):=
 qJ yK #[(.func (.func oC) #[Pv t] #[])] w λb a=>K (Iv ((b.n:Nat):Int)) a
def Ey(t:cm)(a b:Int):=
 qC #[Iv a] w λg w2=>qC #[Iv b] w2 λh i=>Al (.cells #[aP8] 22) (λc j=>iJ P 23 (.func (.func oC) #[Pv t] #[]) #[11] (kp f68.body) (kq f68.body) (.exit 0) ((((((((js [Pv t,Iv a,Iv b] 0 .nil).put (some 4) (Pv (some g))).put (some 5) (Pv (some h))).put (some 6) (aP8)).put (some 7) (Pv (some c))).put (some 9) (Pv t)).put (some 10) (.func (.func oC) #[Pv t] #[]))) j (λb7 d=>qc d c λk=>d.heap[b7]?=some (.deferred (some []))/\K (Sv k) (d.putObj b7 (.deferred none))) (λb8 e=>qc e c λf=>e.heap[b8]?=some (.deferred (some []))/\K (Sv f) (e.putObj b8 (.deferred none)))) i
def Ow(s:cm)(bL:Int):=
 zu w λa w2=>NN s λa3=>qZ w2 a3 1 λA=>zh tl #[Pv A,Iv bL] w2 λB C o=>dO C (qU [Iv 0,Iv 0,.bool false,.bool false] a o λp=>zn p a λe f g h=>K (.tuple #[.agg #[Iv e,Iv f,.bool g,.bool h],.bool false]) p) (zt CT #[.int .u64 B] o λq r t u D m=>zu m λb n=>qU [Iv q,Iv r,.bool t,.bool u] b n λc=>zn c b λv x y z=>qU [Iv v,Iv x,.bool y,.bool z] a c λd=>zn d a λi j k l=>K (.tuple #[.agg #[Iv i,Iv j,.bool k,.bool l],.bool true]) d)
def Ox(v:cm)(group:Int)(s:cm):=
 zW w λd w2=>NN v λa3=>qK w2 a3 1 λm=>Al (.cells #[Iv group,Pv s] 95) (λk l=>∃j:Sl,∃h:bI,Sem.run P (Builtin.append_ #[69,69] 69 #[Sv m,.slice (some k) 1 1]) l=.ok (Sv j) h/\NN v λa9=>St (a9.add 1) (Sv j) (λa=>NN v λc=>qK a c 1 λi=>qU [Iv 0,Iv (i64.wrap (((i.n:Nat):Int)-1)),aP8] d a λb=>zI b d λe f g=>K (.agg #[Iv e,Iv f,Sv g]) b) h) w2
def Oy:=
 qR yP #[] w λd b=>Al (.cells #[aP8,Pv d] 112) (λa c=>K (Pv (some a)) c) b
def Oz(v:cm)(pid:Int):=
 NN v λf=>qK w f 1 λh=>qW h pid 2 λa3=>qZ w a3 1 λi=>qJ CO #[Pv i,Iv 0,Iv 65536] w λj g=>qE CP #[Pv v,Sv j] g λd=>NN v λa=>qK d a 1 λe=>qW e pid 2 λb=>St (b.add 1) (Pv none) (λc=>K aP4 c) d
def OA(c:cm):=
 NN c λg=>qL w (g.add 0) 2 λk=>qF CW #[Iv k] w λl b=>dO l (NN c λh=>St ((h.add 7).add 0) (Iv 1) (λj=>K aP2 j) b) (NN c λi=>qL b (i.add 0) 3 λm=>qF CW #[Iv m] b λf a=>dO f (NN c λd=>St ((d.add 7).add 0) (Iv 1) (λe=>K aP2 e) a) (K aP3 a))
def OB(s:cm)(i j k l m:Int)(n:Bool):=
 zY #[Iv i,Iv j,Iv k,Iv l,Iv m,.bool n] w λo w2=>Dr (λc=>NN s λa4=>qK c a4 0 λp=>zR c o λq r t u f g=>zF JR #[Sv p,.agg #[Iv q,Iv r,Iv t,Iv u,Iv f,.bool g]] c λh a b=>cond (a==0) (NN s λd=>St (d.add 0) (Sv h) (λe=>K (Iv a) e) b) (K (Iv a) b)) w2
def OD(s:cm)(a c:Int):=
 qJ CD #[Pv s,Iv a,Iv c] w λt h=>NN s λa4=>qZ h a4 1 λu=>qJ yJ #[Pv u,Iv a,Iv c] h λp r=>qO 0 r λq d b=>e7 d p.n (qW p d 1 λe=>qD b e λl=>NN s λf=>qZ b f 1 λm=>qF CY #[Pv m,Iv l] b λv i=>(q (i64.wrap (d+1)) i)) (NN s λg=>qK b g 0 λn=>qJ JT #[Sv n,Iv a,Iv c] b λo j=>NN s λa26=>St (a26.add 0) (Sv o) (λk=>K (Sv t) k) j)
def OE(v:cm)(ids:Sl):=
 qO 0 w λd b a=>e7 b ids.n (qW ids b 1 λe=>qD a e λg=>NN v λf=>qZ a f 0 λh=>qQ vC #[Pv h,Iv g,Iv (-1)] a λi c=>(d (i64.wrap (b+1)) c)) (K aP4 a)
def OF(c:cm):=
 zg w λd w2=>NN c λa3=>qL w2 (a3.add 0) 2 λn=>0<=(4:Int)/\NN c λa5=>qZ w2 a5 6 λL=>zm CZ #[Pv L,Iv (n.fdiv (2^(min (4:Int).toNat 64)))] w2 λM D E F G H I J=>zg J λe B=>qU [Iv M,Iv D,Iv E,Iv F,Iv G,.bool H] e B λC=>Dr (λa=>zR a e λg h i j k l=>cond I (NN c λa26=>qL a (a26.add 0) 2 λm=>qU [Iv g,Iv h,Iv i,Iv j,Iv k,.bool l] d a λb=>zH b (a26.add 0) 2 (Iv m) λN=>zR b d λo p q r s t=>K (.tuple #[Iv (n.fdiv (2^(min (4:Int).toNat 64))),.agg #[Iv o,Iv p,Iv q,Iv r,Iv s,.bool t],.bool (decide (m≥0))]) b) (qU [Iv g,Iv h,Iv i,Iv j,Iv k,.bool l] d a λf=>zR f d λu v x y z A=>K (.tuple #[Iv (n.fdiv (2^(min (4:Int).toNat 64))),.agg #[Iv u,Iv v,Iv x,Iv y,Iv z,.bool A],.bool false]) f)) C
def OG(c:cm)(bL U V W X Y:Int)(Z:Bool):=
 Al (.cells #[Pv c] 91) (λd w2=>qC #[Iv bL] w2 λl aa=>zY #[Iv U,Iv V,Iv W,Iv X,Iv Y,.bool Z] aa λt ab=>∃s:Addr->Bool->bi9,(Dr (λa=>qb a d λm=>NN m λj=>qZ a j 6 λg=>qD a l λh=>(zy tk #[Pv g,Iv h] a λB C D E F u=>zu u λq e=>zG e l (Iv h) λae=>qG e j 6 (Pv g) λaf=>zo e d (Pv m) λag=>qU [Iv B,Iv C,.bool D,.bool E] q e λv=>s q F v)/\(zu a λr f=>zG f l (Iv h) λah=>qG f j 6 (Pv g) λai=>zo f d (Pv m) λaj=>zy tk #[Pv g,Iv h] f λG H I J L x=>qU [Iv G,Iv H,.bool I,.bool J] r x λy=>s r L y)) ab)/\(∀ad:Nat->bH,∀p:Addr,∀k:Bool,∀i:bI,s p k i->cond k (qb i d λM=>qL i p 1 λN=>qp C0 #[Pv M,Iv N] i λO P z=>K (.tuple #[Iv O,.bool P]) z) (qb i d λQ=>qp yR #[Pv Q,(.func (.func C2) #[] #[Pv (some d),Pv (some t),Pv (some l)])] i λn o b=>cond o (qb b d λR=>qD b l λS=>qy b t 5 λT=>qE C3 #[Pv R,Iv S,Iv n,Iv 2,.bool T] b λA=>K (.tuple #[Iv n,.bool o]) A) (K (.tuple #[Iv n,.bool o]) b)))) w
def OH(s:cm)(bL:Int):=
 NN s λi=>qZ w i 1 λj=>zh tl #[Pv j,Iv bL] w λk b e=>cond b (Dr (λf=>NN s λc=>qZ f c 1 λh=>zU JX #[.int .u64 k] f λg a=>qG a c 1 (Pv h) λl=>qQ vG #[Pv h,Iv bL,.int .u64 g] a λm d=>K (.bool b) d) e) (K (.bool b) e)
def OI(b a:Addr):=
 qb w b λd=>qD w a λe=>qp JC #[Pv d,Iv e] w λf g c=>K (.tuple #[Iv f,.bool g]) c
def OJ(c:cm)(bL:Int):=
 Al (.cells #[Pv c] 91) (λe w2=>∃N:Addr->Addr->bi9,(qb w2 e λaN=>NN aN λa9=>qZ w2 a9 6 λaa=>zy tk #[Pv aa,Iv bL] w2 λab ad ae af ag O=>zu O λy P=>Al (.cells #[.bool false] 4) (λz Q=>qU [Iv ab,Iv ad,.bool ae,.bool af] y Q λR=>St z (.bool ag) (λS=>N y z S) R) P)/\(∀aO:Nat->bH,∀j:Addr,∀d:Addr,∀U:bI,N j d U->∃n:Addr->bi9,(Dr (λb=>qb b e λr=>NN r λo=>qZ b o 5 λs=>NN s λa32=>qZ b a32 0 λk=>qL b j 1 λl=>(qX vz #[Pv k,Iv l] b λah ai aj ak al am an ao ap aP T=>qV T λB g=>zH g j 1 (Iv l) λaQ=>qG g a32 0 (Pv k) λaR=>qG g o 5 (Pv s) λaS=>zo g e (Pv r) λaT=>qU [Iv ah,Iv ai,Iv aj,Iv ak,Iv al,Iv am,Iv an,.bool ao,.bool ap] B g λV=>n B V)/\(qV b λC h=>zH h j 1 (Iv l) λaU=>qG h a32 0 (Pv k) λaV=>qG h o 5 (Pv s) λaW=>zo h e (Pv r) λaX=>qX vz #[Pv k,Iv l] h λaq ar au av aw ax ay az aA aY W=>qU [Iv aq,Iv ar,Iv au,Iv av,Iv aw,Iv ax,Iv ay,.bool az,.bool aA] C W λX=>n C X)) U)/\(∀aL:Nat->bH,∀A:Addr,∀f:bI,n A f->qh (λu=>qm f d λaC=>cond aC (qL f A 5 λaD=>u (decide (aD<=1)) f) (u false f)) λaB i=>cond aB (qb i e λaE=>qL i j 1 λaF=>qp C0 #[Pv aE,Iv aF] i λaG aH Y=>K (.tuple #[Iv aG,.bool aH]) Y) (qb i e λaI=>qp yR #[Pv aI,(.func (.func C5) #[] #[Pv (some d),Pv (some e),Pv (some j)])] i λt m p=>qg (λv=>cond m (qb p e λaJ=>qE C3 #[Pv aJ,Iv bL,Iv t,Iv 1,.bool true] p λZ=>v Z) (v p)) λq=>qh (λx=>cond m (qm q d λH=>x H q) (x false q)) λaK D=>cond aK (Dr (λa=>qb a e λI=>NN I λE=>qZ a E 5 λJ=>NN J λF=>qZ a F 0 λL=>qL a j 1 λM=>qQ vC #[Pv L,Iv M,Iv (-1)] a λaM G=>K (.tuple #[Iv t,.bool m]) G) D) (K (.tuple #[Iv t,.bool m]) D))))) w
variable{K w}
def aGS(bQ cg bU)(h:N5 K w bQ cg bU):=bM {} #[Iv bQ,Iv cg,Sv bU] K w func17 h
def aAv(v)(h:N6 K w v):=bM {} #[Pv v] K w func18 h
def aDe(v a b c e f)(h:N7 K w v a b c e f):=bM {(z8 [14,29,33] [(1,[[1,2,0,3,4]],[0]),(4,[[1,2,4,5,6,0,3,7,8,9]],[0,7])]:dU)with dyn:=λd=>[18,42].contains d} #[Pv v,.agg #[Iv a,Iv b,Iv c,Iv e,Iv f]] K w func21 h
def ay6(v)(h:N8 K w v):=bM (z8 [11,13,20,32] [] [(3,[(3,.slice),(12,jZ)])] [(8,[])]) #[Pv v] K w func23 h
def ay7(v pid)(h:N9 K w v pid):=bM (z8 [6,13,14] [] [] [(3,[])]) #[Pv v,Iv pid] K w func24 h
def as7(s)(h:Oa K w s):=bM {} #[Pv s] K w func27 h
def z6(bQ cg bU l)(h:vW K w bQ cg bU l):=bM (z8 [18,20,29] [] [(4,[(10,.slice),(19,jZ)])]) #[Iv bQ,Iv cg,Sv bU,Sv l] K w func29 h
def aze(h:Z8 K w):=bM {} #[] K w func36 h
def aDf(h:Z9 K w):=bM {} #[] K w func37 h
def arU(s)(h:Ob K w s):=bM {} #[Pv s] K w func38 h
def ata(s a b)(h:Oc K w s a b):=bM (z8 [19,21,35] [] [(3,[(7,.slice),(20,jZ)])]) #[Pv s,Iv a,Iv b] K w func40 h
def ay8(v a b c d e)(h:Od K w v a b c d e):=bM (z8 [19] [(1,[jQ 12],[6])]) #[Pv v,.agg #[Iv a,Iv b,Iv c,Iv d,Iv e]] K w func51 h
def axY(v a b c d e)(h:Oe K w v a b c d e):=bM (z8 [10,25,27,34,41,44] [(1,[[0,1,2,3,4,5,6,7,9,10,8,11,12,13]],[8,11]),(8,[jQ 9],[6,8])] [(3,[(26,jZ)])] [(2,[(5,.bool)])]) #[Pv v,.agg #[Iv a,Iv b,Iv c,Iv d,Iv e]] K w func52 h
def aza(v a b c d e)(h:Of K w v a b c d e):=bM (z8 [] [(1,[jQ 13],[10,12])]) #[Pv v,.agg #[Iv a,Iv b,Iv c,Iv d,Iv e]] K w func53 h
def azb(v a b c d e)(h:Og K w v a b c d e):=bM (z8 [21,22] [(1,[[0,1,2,3,5,6,4,7,8,9]],[4,7]),(5,[jQ 6],[3,4,5])]) #[Pv v,.agg #[Iv a,Iv b,Iv c,Iv d,Iv e]] K w func54 h
def aB3(v a b c d e)(h:Oh K w v a b c d e):=bM (z8 [] [(1,[jQ 9],[6,8])]) #[Pv v,.agg #[Iv a,Iv b,Iv c,Iv d,Iv e]] K w func55 h
def axZ(v a b c d e)(h:Oi K w v a b c d e):=bM (z8 [] [(1,[jQ 11],[8,10])]) #[Pv v,.agg #[Iv a,Iv b,Iv c,Iv d,Iv e]] K w func56 h
def avb(c)(h:Oj K w c):=bM (z8 [] [(0,[[0,1,2,3,4,5,6,8,9,10,11,12,7,13,14]],[7,13]),(2,[jQ 20],[19])]) #[Pv c] K w func57 h
def ax0(c)(h:Ol K w c):=bM (z8 [] [(0,[jQ 10],[9])]) #[Pv c] K w func58 h
def avc(c)(h:Om K w c):=bM (z8 [24] [(1,[jQ 27],[22,26])]) #[Pv c] K w func59 h
def atg(c)(h:On K w c):=bM (z8 [10,25,46,72] [(1,[jQ 43],[19,40]),(3,[jQ 32],[27,31])] [] [(3,[])]) #[Pv c] K w func60 h
def awK(c)(h:Oo K w c):=bM (z8 [24,34] [(1,[jQ 22],[20])]) #[Pv c] K w func61 h
def ax3(c)(h:Oq K w c):=bM (z8 [36,61,73] [(7,[jQ 20],[14])] [] [(5,[])]) #[Pv c] K w func62 h
def awI(c)(h:Ot K w c):=bM {(z8 [20,27,53,57,78,84] [(14,[jQ 21],[20]),(15,[jQ 6],[5])] [] [(3,[(14,.bool)]),(8,[]),(12,[(5,.raw)])]:dU)with dyn:=λd=>[61].contains d} #[Pv c] K w func63 h
def ax1(c)(h:Ou K w c):=bM (z8 [12,13,25,27,39] [(8,[jQ 25],[21,24])] [(4,[(26,jZ)])]) #[Pv c] K w func64 h
def as0(t)(h:Ov K w t):=bM (z8 [6]) #[Pv t] K w func65 h
def tK:dU:={quiet:=λd=>[14,17].contains d,brk:=some 0}
def Ez:Nat->Bool:=λd=>[].contains d
def ar3(t:cm)(a b:Int)(K:bj0)(w:bI):ni P fV gZ cD tK Ez f68 #[(.pointer t),(.int .i64 a),(.int .i64 b)] K w=Ey K w t a b:=by kernel_rfl
def arY:nj P tK f68 3=true:=by kernel_rfl
def arT(t:cm)(a b:Int){K:bj0}{w:bI}(h:Ey K w t a b):Calls P yJ #[(Pv t),(Iv a),(Iv b)] w (cC K):=oA mixed func68 arY (by rw[ar3];exact h)
def OK(m n g:Addr)(b:Int)(c:Nat)(w:bI)(R:Ending->bi9):Prop:=
 lI c (λa=>qD a n λj=>cond (decide (b≥j)) (fg c (some (.exit 0)) R a) (qD a m λk=>cond (decide (b≥k)) (qc a g λl=>qC #[Iv b] a λf h=>∃e:Sl,∃d:bI,Sem.run P (Builtin.append_ #[22,22] 22 #[Sv l,.slice (some f) 1 1]) h=.ok (Sv e) d/\St g (Sv e) (λi=>fg c none R i) d) (fg c none R a))) w
def aq0(t:cm)(a g:Int)(d e f:Addr)(b:Int)(c:Nat)(w:bI)(R:Ending->bi9):mM P fV gZ cD tK Ez 23 c (kp f68.body) (kq f68.body) (lK [(11,.int .i64 b)] (((((((js [(.pointer t),(.int .i64 a),(.int .i64 g)] 0 .nil).put (some 4) (.pointer (some d))).put (some 5) (.pointer (some e))).put (some 6) (aP8)).put (some 7) (.pointer (some f))).put (some 9) (.pointer t)).put (some 10) (.func (.func oC) #[(.pointer t)] #[]))) w R=OK d e f b c w R:=by kernel_rfl
def aqX:gY P 23 tK (kp f68.body)=true/\gY P 23 tK (kq f68.body)=true:=⟨by kernel_rfl,by kernel_rfl⟩
def aqM(s bL)(h:Ow K w s bL):=bM {} #[Pv s,Iv bL] K w func69 h
def aB2(v group s)(h:Ox K w v group s):=bM (z8 [23,24]) #[Pv v,Iv group,Pv s] K w func82 h
def aB1(h:Oy K w):=bM {} #[] K w func83 h
def aAw(v pid)(h:Oz K w v pid):=bM {} #[Pv v,Iv pid] K w func86 h
def awH(c)(h:OA K w c):=bM {} #[Pv c] K w func87 h
def as8(s a b c d e f)(h:OB K w s a b c d e f):=bM (z8 [17] [(1,[jQ 11],[5])]) #[Pv s,.agg #[Iv a,Iv b,Iv c,Iv d,Iv e,.bool f]] K w func88 h
def as6(s a b)(h:OD K w s a b):=bM (z8 [21,23,32] [] [(3,[(22,jZ)])]) #[Pv s,Iv a,Iv b] K w func91 h
def ay9(v ids)(h:OE K w v ids):=bM (z8 [7,9,18] [] [(1,[(8,jZ)])]) #[Pv v,Sv ids] K w func92 h
def awL(c)(h:OF K w c):=bM (z8 [13,32] [(3,[jQ 14],[12])]) #[Pv c] K w func93 h
def awJ(c bL a b d e f g)(h:OG K w c bL a b d e f g):=bM (z8 [] [(1,[jQ 12,[0,1,2,3,4,9,5,6,7,8,10,11]],[5,9,10])] [] [(2,[(8,.addr),(9,.bool)])]) #[Pv c,Iv bL,.agg #[Iv a,Iv b,Iv d,Iv e,Iv f,.bool g]] K w func94 h
def aqN(s bL)(h:OH K w s bL):=bM (z8 [] [(3,[jQ 8],[6,7])]) #[Pv s,Iv bL] K w func96 h
def ati(b a)(h:OI K w b a):=bM {} #[Pv (some b),Pv (some a)] K w func97 h
def azc(c bL)(h:OJ K w c bL):=bM (z8 [38] [(2,[jQ 16,[0,1,2,3,4,5,6,7,8,13,9,10,11,12,14,15]],[9,13,14]),(9,[jQ 10],[9])] [] [(2,[(6,.addr),(7,.addr)]),(3,[(8,.addr)]),(4,[(39,.bool)]),(8,[]),(9,[(60,.bool)])]) #[Pv c,Iv bL] K w func98 h
end Go.Mp
