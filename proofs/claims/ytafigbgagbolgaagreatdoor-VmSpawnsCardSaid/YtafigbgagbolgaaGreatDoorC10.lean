/- Part of a proof about the core: of its walks and plain laws. -/
import Derived.Test.YtafigbgagbolgaaGreatDoorC09
import Derived.Shelf.Slices.Clone
import Derived.Test.YtafigbgagbolgaaGreatDoorProg
set_option linter.all false
set_option maxRecDepth 100000
open Go.IntKind(i64 u64)
namespace Go.Mp.Sh
open Go Go.Vc Go.Sp Go.Stab Go.Mp
structure cR where
 at_:Int
 low:Int
def cR.vs(x:cR):List Value:=[Iv x.at_,.int .u64 x.low]
def cR.kD(x:cR):x.vs.length=2:=rfl
section
variable{E:Env}{L:ch}{w:World}{s:Sl}{l:List cR}
def gP{F:Int->Int->Prop}{i:Int}{x:cR}(k:Nat)(h:Sep E (bC s 2 (bQ cR.vs l)::L) w)(e:s.n=l.length)(d:i=k)(hx:l[k]?=some x)(f:F x.at_ x.low):cx s.p s.n i 2 λa=>∃v:Int,w.cell? (a.add 0)=some (Iv v)/\∃u:Int,w.cell? (a.add 1)=some (.int .u64 u)/\F v u:=
 kZ cR.kD 0 h rfl e d hx (λb _ c=>⟨_,by rw[cj];exact c 0 _ rfl,_,by rw[cj];exact c 1 _ rfl,f⟩)
def kh{f:bh6}{i:Int}{x:cR}(k:Nat)(h:Sep E (bC s 2 (bQ cR.vs l)::L) w)(o:s.n=l.length)(n:i=k)(d:k<l.length)(g:∀c,Sep E (bC s 2 (bQ cR.vs (l.set k x))::L) c->f c):
  cx s.p s.n i 2 λa=>jt [Iv x.at_,.int .u64 x.low] a f w:=by
 refine bC.el 0 h rfl bA bA (λb m _=>?_);have e:i.toNat=k:=by omega
 rw[e];have hle:(k+1)*2<=l.length*2:=kv _ d;refine bC.sT h m (by show 0<2;decide) (by rw[oq cR.kD];simp;omega) (λc h1=>g c ?_);have:=Zx cR.kD (l:=l) (i:=k) (j:=0) (a:=l[k]) (a':=x) (xs:=[Iv x.at_,.int .u64 x.low]) (dD d) (by show 0+2<=2;decide) rfl;rw[lu]at this;rw[this]at h1;exact h1
def gx(E:Env)(L:ch)(s:Sl)(cmp:Value)(lt:cR->cR->Bool)(n:Nat):Prop:=
 ∀(l:List cR) (x y:cR) (w:World),l.length=n->Sep E (bC s 2 (bQ cR.vs l)::L) w->eX P cmp #[.agg #[Iv x.at_,.int .u64 x.low],.agg #[Iv y.at_,.int .u64 y.low]] w λe w'=>∃r:Int,e=.returned (Iv r)/\decide (r<0)=lt x y/\Sep E (bC s 2 (bQ cR.vs l)::L) w'
variable{cmp:Value}{lt:cR->cR->Bool}{n:Nat}
def gx.i(b:gx E L s cmp lt n)(c:l.length=n)(h:Sep E (bC s 2 (bQ cR.vs l)::L) w){x y:cR}{A B:bh6}(f:lt x y=true->∀w',Sep E (bC s 2 (bQ cR.vs l)::L) w'->A w')(g:lt x y=false->∀w',Sep E (bC s 2 (bQ cR.vs l)::L) w'->B w'):
  eX P cmp #[.agg #[Iv x.at_,.int .u64 x.low],.agg #[Iv y.at_,.int .u64 y.low]] w λe w'=>∃r:Int,e=.returned (Iv r)/\bif decide (r<0)then A w' else B w':=by
 refine eX.use (b l x y w c h) ?_;rintro e w' ⟨r,rfl,d,h'⟩;refine⟨r,rfl,?_⟩;rw[d];cases a:lt x y with
 |true=>exact f a w' h'
 |false=>exact g a w' h'
def gx.j(b:gx E L s cmp lt n)(c:l.length=n)(h:Sep E (bC s 2 (bQ cR.vs l)::L) w){x y:cR}{A B:bh6}(f:lt x y=true->∀w',Sep E (bC s 2 (bQ cR.vs l)::L) w'->A w')(g:lt x y=false->∀w',Sep E (bC s 2 (bQ cR.vs l)::L) w'->B w'):
  eX P cmp #[.agg #[Iv x.at_,.int .u64 x.low],.agg #[Iv y.at_,.int .u64 y.low]] w λe w'=>∃r:Int,e=.returned (Iv r)/\bif(!(decide (r<0)))then B w' else A w':=by
 refine eX.use (b l x y w c h) ?_;rintro e w' ⟨r,rfl,d,h'⟩;refine⟨r,rfl,?_⟩;rw[d];cases a:lt x y with
 |true=>exact f a w' h'
 |false=>exact g a w' h'
structure k4(R b:cR->cR->Prop)(lt:cR->cR->Bool):Prop where
 ord:Ord R
 ne:∀x y,b x y->x≠y
 ask:∀x y,b x y->(lt y x=true↔R y x)
variable{R b:cR->cR->Prop}
def k4.no(K:k4 R b lt){x y:cR}(a:b x y)(h:lt y x=false):R x y:=
 K.ord.not (Ne.symm (K.ne x y a)) (λc=>by rw[(K.ask x y a).2 c]at h;cases h)
def k5{A B:List cR}{k:Nat}:(A++B)[A.length+k]?=B[k]? :=by
 rw[fo bA];congr 1;omega
def kj{A P B:List cR}{i k:Nat}{x:cR}(a:i<=P.length)(b:k<=P.length):(A++ins P i x++B)[A.length+k]?=if k<i then P[k]? else if k=i then some x else P[k-1]? :=by
 have:=mN P i x;rw[dc,k5,eE bA,s7 P i x a]
def wm{A M B:List cR}(K:k4 R b lt)(X:M.Pairwise b)(p:s.n=(A++M++B).length)(I:(A++M++B).length<4611686018427387904)(N:gx E L s cmp lt (A++M++B).length)(h:Sep E (bC s 2 (bQ cR.vs (A++M++B))::L) w){a e:Int}(Y:a=A.length)(he:e=A.length+M.length):
  Calls P DN #[Sv s,Iv a,Iv e,cmp] w (bW λv w'=>v=.tuple #[]/\∃H,H.Perm M/\H.Pairwise R/\Sep E (bC s 2 (bQ cR.vs (A++H++B))::L) w'):=by
 subst Y he;have hlen:(A++M++B).length=A.length+M.length+B.length:=by simp;omega
 apply Za;unfold Nq qO qU qW qg zM;rw[hlen]at p I N;refine⟨λi w=>∃(k:Nat) (S:List cR),i=A.length+k/\1<=k/\(k<=M.length\/M= [])/\S.Perm (M.take k)/\S.Pairwise R/\Sep E (bC s 2 (bQ cR.vs (A++S++(M.drop k++B)))::L) w,λi _=>(A.length+M.length-i).toNat,?_,?_⟩
 ·rw[cH bA bA];refine⟨1,M.take 1,bA,dN _,?_,.refl _,?_,?_⟩
  ·cases M with
   |nil=>exact .inr rfl
   |cons x M=>left;simp
  ·cases M with
   |nil=>simp
   |cons x M=>simp
  ·have:A++M.take 1++(M.drop 1++B)=A++M++B:=by
    rw[<- dc,dc A,fA]
   rw[this];exact h
 rintro _ i aj ⟨k,S,rfl,af,d,q,C,h1⟩;refine cL (λag=>?_) (λad=>⟨rfl,S,?_,C,?_⟩)
 ·have F:k<M.length:=by omega
  have r:S.length=k:=by rw[q.length_eq];simp;omega
  have hx:M[k]?=some M[k]:=dD F;generalize T:M[k]=x at hx;have u:M.drop k=x::M.drop (k+1):=by rw[<- T];exact ln F
  have D:∀y∈S,b y x:=by
   intro y f;obtain⟨j,Z,O⟩:=s8 (q.mem_iff.1 f);exact pR X O hx Z
  refine⟨λj w=>∃m:Nat,j=A.length+m/\m<=k/\(k<=m\/∃y,S[m]?=some y/\R x y)/\Sep E (bC s 2 (bQ cR.vs (A++ins S m x++(M.drop (k+1)++B)))::L) w,λj _=>(j-A.length).toNat,?_,?_⟩
  ·refine⟨k,rfl,dN _,.inl (dN _),?_⟩;have e:A++ins S k x++(M.drop (k+1)++B)=A++S++(M.drop k++B):=by
    rw[<- r,xY,r,u];simp
   rw[e];exact h1
  rintro _ j w2 ⟨m,rfl,ai,Q,V⟩;have g:(A++ins S m x++(M.drop (k+1)++B)).length=A.length+M.length+B.length:=by
   have:=mN S m x;simp only[da,this,nY];omega
  have out:∀ {t:World},(m=0\/∃y,S[m-1]?=some y/\R y x)->Sep E (bC s 2 (bQ cR.vs (A++ins S m x++(M.drop (k+1)++B)))::L) t->
    ((∃(k':Nat) (S:List cR),(i64.wrap (A.length+k+1))=A.length+k'/\1<=k'/\(k'<=M.length\/M= [])/\S.Perm (M.take k')/\S.Pairwise R/\Sep E (bC s 2 (bQ cR.vs (A++S++(M.drop k'++B)))::L) t)/\
     (A.length+M.length-i64.wrap (A.length+k+1)).toNat<(A.length+M.length-(A.length+k:Int)).toNat):=by
   intro t z l;rw[cH bA bA];refine⟨⟨k+1,ins S m x,bA,bA,.inl bA,?_,?_,l⟩,bA⟩
   ·refine(s6 S m x).trans ?_;rw[mA,hx];exact(List.Perm.cons x q).trans (lO (l₁:=[x]))
   ·exact s9 K.ord C z (by rw[r];exact Q)
  refine⟨λw=>∃c y,m=c+1/\S[c]?=some y/\R x y/\Sep E (bC s 2 (bQ cR.vs (A++ins S m x++(M.drop (k+1)++B)))::L) w,?_,?_⟩
  ·refine Dr.i V (λt l=>eW (λae=>?_) (λhle=>?_))
   ·obtain⟨c,rfl⟩:∃c,m=c+1:=⟨m-1,bA⟩
    have f:S[c]?=some (S[c]'bA):=dL;generalize S[c]'(bA)=y at f;have G:y∈S:=eu f;rw[cH bA bA];refine gP (A.length+(c+1)) l (by rw[p,g]) bA (by rw[kj bA bA,cM,bM rfl]) ?_;refine gP (A.length+c) l (by rw[p,g]) bA (by rw[kj bA bA,eG];exact f) ?_;refine N.i g l (λab U o=>⟨c,y,rfl,f,(K.ask y x (D y G)).1 ab,o⟩) (λhf U o=>out (.inr ⟨y,f,K.no (D y G) hf⟩) o)
   ·exact out (.inl bA) l
  ·rintro _ t ⟨c,y,rfl,f,aa,l⟩;have ah:c<S.length:=(cT.1 f).1;refine Dr.i l (λU o=>?_);rw[cH (n:=A.length+((c+1:Nat):Int)-1) bA bA];refine gP (A.length+c) o (by rw[p,g]) bA (by rw[kj bA bA,eG];exact f) ?_;refine gP (A.length+(c+1)) o (by rw[p,g]) bA (by rw[kj bA bA,cM,bM rfl]) ?_;refine kh (A.length+(c+1)) o (by rw[p,g]) bA bA (λak W=>?_);refine kh (A.length+c) W (by rw[dA,p,g]) bA (by rw[dA];omega) (λal J=>?_);rw[<- uV,xZ f]at J;exact⟨⟨c,bA,bA,.inr ⟨y,f,aa⟩,J⟩,by dsimp only;omega⟩
 ·rcases d with d|d
  ·have:k=M.length:=by omega
   rw[this,fN]at q;exact q
  ·subst d;simpa using q
 ·have:M.drop k= []:=by
   rcases d with d|d;·exact jJ bA
   ·subst d;simp
  rw[this,lR]at h1;exact h1
def r0{A U M V B:List cR}(g:U.length=V.length)(q:s.n=(A++U++M++V++B).length)(p:(A++U++M++V++B).length<4611686018427387904)(h:Sep E (bC s 2 (bQ cR.vs (A++U++M++V++B))::L) w){a e n':Int}(o:a=A.length)(he:e=A.length+U.length+M.length)(j:n'=U.length):
  Calls P yX #[Sv s,Iv a,Iv e,Iv n',cmp] w (bW λv w'=>v=.tuple #[]/\Sep E (bC s 2 (bQ cR.vs (A++V++M++U++B))::L) w'):=by
 subst o he j;have hlen:(A++U++M++V++B).length=A.length+U.length+M.length+V.length+B.length:=by simp only[da]
 apply Zl;unfold NB qO qU qW zM;refine⟨λi w=>∃(k:Nat) (l':List cR),i=k/\k<=U.length/\nu (A++U++M++V++B) l' A.length (A.length+U.length+M.length) k/\Sep E (bC s 2 (bQ cR.vs l')::L) w,λi _=>(U.length-i).toNat,⟨0,_,rfl,ec _,nu.zero _ _ _,h⟩,?_⟩;rintro _ i z ⟨k,l',rfl,u,d,h1⟩;have b:l'.length=s.n:=by rw[d.1,q]
 refine cL (λt=>Dr.i h1 (λw2 c=>?_)) (λr=>⟨rfl,?_⟩)
 ·rw[cH (n:=(A.length:Int)+U.length+M.length+k) bA bA,cH (n:=(A.length:Int)+k) bA bA,cH (n:=(k:Int)+1) bA bA];have hx:l'[A.length+U.length+M.length+k]?=some (l'[A.length+U.length+M.length+k]'bA):=dL;have f:l'[A.length+k]?=some (l'[A.length+k]'bA):=dL;generalize l'[A.length+U.length+M.length+k]'(bA)=x at hx;generalize l'[A.length+k]'(bA)=y at f;refine gP _ c b.symm bA hx (gP _ c b.symm bA f ?_);refine kh (A.length+k) c b.symm bA bA (λC l=>kh (A.length+U.length+M.length+k) l (by rw[dA];exact b.symm) bA (by rw[dA];omega) (λD m=>?_));exact⟨⟨k+1,_,bA,bA,d.step (n:=U.length) bA bA hx f,m⟩,by dsimp only;omega⟩
 ·have:k=U.length:=by omega
  subst this;rw[d.eq g]at h1;exact h1
def EP{A X Y B:List cR}(q:1<=X.length)(r:1<=Y.length)(H:s.n=(A++X++Y++B).length)(u:(A++X++Y++B).length<4611686018427387904)(h:Sep E (bC s 2 (bQ cR.vs (A++X++Y++B))::L) w){a m e:Int}(t:a=A.length)(hm:m=A.length+X.length)(he:e=A.length+X.length+Y.length):
  Calls P Kq #[Sv s,Iv a,Iv m,Iv e,cmp] w (bW λv w'=>v=.tuple #[]/\Sep E (bC s 2 (bQ cR.vs (A++Y++X++B))::L) w'):=by
 subst t hm he;have hlen:(A++X++Y++B).length=A.length+X.length+Y.length+B.length:=by simp only[da]
 apply Zi;unfold Ny qE qI;rw[cH (n:=(A.length:Int)+X.length-A.length) bA bA,cH (n:=(A.length:Int)+X.length+Y.length-(A.length+X.length)) bA bA];refine⟨λi j w=>∃A' c b d:List cR,i=c.length/\j=b.length/\1<=c.length/\1<=b.length/\A'.length+c.length=A.length+X.length/\A'++b++c++d=A++Y++X++B/\Sep E (bC s 2 (bQ cR.vs (A'++c++b++d))::L) w,
  λi j _=>(i+j).toNat,⟨A,X,Y,B,bA,bA,q,r,rfl,rfl,h⟩,?_⟩
 rintro _ i j I ⟨A',c,b,d,rfl,rfl,x,y,D,f,h1⟩;have C:A'.length+b.length+c.length+d.length=A.length+X.length+Y.length+B.length:=by
  have:=eO List.length f;simp only[da]at this;omega
 have F:s.n=A'.length+b.length+c.length+d.length:=by omega
 rw[cH (n:=(A.length:Int)+X.length-c.length) bA bA];refine gV (λG=>eW (λz=>?_) (λhle=>?_)) (λheq=>?_)
 ·
  have o:A'++c++b++d=A'++c.take b.length++c.drop b.length++b++d:=by rw[dc A' (c.take _),fA]
  have k:(c.take b.length).length=b.length:=by simp;omega
  have l:(c.drop b.length).length=c.length-b.length:=by simp
  rw[o]at h1;refine use (r0 (cmp:=cmp) k (by simp only[da,k,l];omega) (by simp only[da,k,l];omega) h1 bA bA bA) ?_;rintro _ w2 ⟨rfl,g⟩;rw[cH bA bA];refine⟨rfl,⟨A'++b,c.drop b.length,c.take b.length,d,bA,bA,bA,bA,by simp only[da];omega,?_,g⟩,by dsimp only;omega⟩;rw[<- f,dc (A'++b),fA]
 ·have o:A'++c++b++d=A'++c++b.take (b.length-c.length)++b.drop (b.length-c.length)++d:=by rw[dc (A'++c) (b.take _),fA]
  have k:(b.take (b.length-c.length)).length=b.length-c.length:=by simp
  have l:(b.drop (b.length-c.length)).length=c.length:=by simp;omega
  rw[o]at h1;rw[cH (n:=(A.length:Int)+X.length+b.length) bA bA,cH (n:=(A.length:Int)+X.length+b.length-c.length) bA bA];refine use (r0 (cmp:=cmp) l.symm (by simp only[da,k,l];omega) (by simp only[da,k,l];omega) h1 bA bA bA) ?_;rintro _ w2 ⟨rfl,g⟩;rw[cH bA bA];refine⟨rfl,⟨A',b.drop (b.length-c.length),b.take (b.length-c.length),c++d,bA,bA,bA,bA,bA,?_,?_⟩,by dsimp only;omega⟩;·rw[<- f,dc A' (b.take _),fA];simp
  ·have:A'++b.drop (b.length-c.length)++b.take (b.length-c.length)++c++d=A'++b.drop (b.length-c.length)++b.take (b.length-c.length)++(c++d):=by simp
   rw[<- this];exact g
 ·have p:c.length=b.length:=by omega
  have o:A'++c++b++d=A'++c++[]++b++d:=by simp
  rw[o]at h1;refine use (r0 (cmp:=cmp) p (by simp only[da,rb];omega) (by simp only[da,rb];omega) h1 bA (by simp only[rb];omega) bA) ?_;rintro _ w2 ⟨rfl,g⟩;refine⟨rfl,rfl,?_⟩;rw[<- f];have:A'++b++[]++c++d=A'++b++c++d:=by simp
  rw[this]at g;exact g
end
end Go.Mp.Sh
namespace Go.Mp.Sh
open Go Go.Vc Go.Sp Go.Stab Go.Mp
section
variable{E:Env}{L:ch}{w:World}{s:Sl}{cmp:Value}{lt:cR->cR->Bool}{n:Nat}{R b:cR->cR->Prop}
def k6{A X Y B:List cR}{k:Nat}(a:k<X.length):(A++X++Y++B)[A.length+k]?=X[k]? :=by
 rw[dc,dc,k5,eE a]
def k7{A X Y B:List cR}{k:Nat}(a:k<Y.length):(A++X++Y++B)[A.length+X.length+k]?=Y[k]? :=by
 have:A.length+X.length+k=(A++X).length+k:=by simp
 rw[this,dc,k5,eE a]
def wo(K:k4 R b lt)(a0:n<1152921504606846976)(ba:s.n=n)(aG:gx E L s cmp lt n):∀(N:Nat) {A X Y B:List cR} {w:World},X.length+Y.length<=N->1<=X.length->1<=Y.length->
  X.Pairwise R->Y.Pairwise R->(∀x∈X,∀y∈Y,b x y)->(A++X++Y++B).length=n->Sep E (bC s 2 (bQ cR.vs (A++X++Y++B))::L) w->∀ {a m e:Int},a=A.length->m=A.length+X.length->e=A.length+X.length+Y.length->
  Calls P vK #[Sv s,Iv a,Iv m,Iv e,cmp] w (bW λv w'=>v=.tuple #[]/\∃Z,Z.Perm (X++Y)/\Z.Pairwise R/\Sep E (bC s 2 (bQ cR.vs (A++Z++B))::L) w'):=by
 intro N;induction N with
 |zero=>intro A X Y B w h1 o;omega
 |succ N aS=>
 intro A X Y B w a8 aL aM aq ar am aO h a m e aZ hm he;subst aZ hm he;have hlen:(A++X++Y++B).length=A.length+X.length+Y.length+B.length:=by simp only[da]
 rw[hlen]at aO;have M:s.n=(A++X++Y++B).length:=by omega
 apply Zb;unfold Nr qE qI qO qU qW qg qh zM zP;rw[cH (n:=(A.length:Int)+X.length-A.length) bA bA,cH (n:=(A.length:Int)+X.length+Y.length-(A.length+X.length)) bA bA];refine eD (λh1=>?_) (λa1=>eD (λo=>?_) (λa2=>?_))
 ·
  obtain⟨x,rfl⟩:∃x,X= [x]:=by
   match X,aL,h1 with
   |[x],_,_=>exact⟨x,rfl⟩
   |_::_::_,_,h=>simp at h;omega
  simp only[lP]at*
  have aA:∀y∈Y,b x y:=λy l=>am x (by simp) y l;refine⟨λi j w=>∃p q:Nat,i=A.length+1+p/\j=A.length+1+q/\p<=q/\q<=Y.length/\(p=0\/∃y,Y[p-1]?=some y/\R y x)/\(Y.length<=q\/∃y,Y[q]?=some y/\R x y)/\Sep E (bC s 2 (bQ cR.vs (A++[x]++Y++B))::L) w,
   λi j _=>(j-i).toNat,⟨0,Y.length,bA,bA,bA,bA,.inl rfl,.inl (dN _),h⟩,?_⟩
  rintro _ i j aV ⟨p,q,rfl,rfl,aB,aJ,G,H,h1⟩;refine cL (λah=>⟨bO,Dr.i h1 (λw2 o=>?_)⟩) (λag=>?_)
  ·have C:((A.length:Int)+1+p+(A.length+1+q))/2=((A.length+1+(p+q)/2:Nat):Int):=by omega
   rw[half,C];have z:(p+q)/2<Y.length:=by omega
   have l:Y[(p+q)/2]?=some (Y[(p+q)/2]'z):=dD z;generalize Y[(p+q)/2]'z=y at l;have aD:y∈Y:=eu l;refine gP (A.length+1+(p+q)/2) o M rfl ((k7 (A:=A) (X:=[x]) (B:=B) z).trans l) (gP (A.length+0) o M bA (by rw[k6 (by simp)];rfl) ?_);refine aG.i bA o (λQ ab f=>?_) (λhf ab f=>?_)
   ·rw[cH bA bA];exact⟨⟨(p+q)/2+1,q,bA,rfl,bA,aJ,.inr ⟨y,by simpa using l,(K.ask x y (aA y aD)).1 Q⟩,H,f⟩,by dsimp only;omega⟩
   ·exact⟨⟨p,(p+q)/2,rfl,bA,bA,bA,G,.inr ⟨y,l,K.no (aA y aD) hf⟩,f⟩,by dsimp only;omega⟩
  ·have W:p=q:=by omega
   subst W;rw[cH (n:=(A.length:Int)+1+p-1) bA bA];have aE:A++[x]++Y++B=A++ins Y 0 x++B:=by simp[ins]
   rw[aE]at h1;refine⟨λk w=>∃t:Nat,k=A.length+t/\t<=p/\Sep E (bC s 2 (bQ cR.vs (A++ins Y t x++B))::L) w,λk _=>(A.length+p-k).toNat,⟨0,bA,bA,h1⟩,?_⟩;rintro _ k w2 ⟨t,rfl,Q,o⟩;have D:s.n=(A++ins Y t x++B).length:=by
    have:=mN Y t x;simp only[da,this];omega
   refine cL (λah=>Dr.i o (λab f=>?_)) (λag=>?_)
   ·rw[cH (n:=(A.length:Int)+t+1) bA bA];have l:Y[t]?=some (Y[t]'bA):=dL;generalize Y[t]'(bA)=y at l;refine gP (A.length+(t+1)) f D bA (by rw[kj bA bA,cM,cM];exact l) ?_;refine gP (A.length+t) f D bA (by rw[kj bA bA,cM,bM rfl]) ?_;refine kh (A.length+t) f D bA bA (λai u=>kh (A.length+t+1) u (by rw[dA];exact D) bA (by rw[dA];omega) (λaK J=>?_));rw[Iq l]at J;exact⟨⟨t+1,bA,bA,J⟩,by dsimp only;omega⟩
   ·have:t=p:=by omega
    subst this;exact⟨trivial,ins Y t x,s6 Y t x,s9 K.ord ar G H,o⟩
 ·
  obtain⟨y,rfl⟩:∃y,Y= [y]:=by
   match Y,aM,o with
   |[y],_,_=>exact⟨y,rfl⟩
   |_::_::_,_,h=>simp at h;omega
  simp only[lP]at*
  have az:∀x∈X,b x y:=λx hx=>am x hx y (by simp);refine⟨λi j w=>∃p q:Nat,i=A.length+p/\j=A.length+q/\p<=q/\q<=X.length/\(p=0\/∃x,X[p-1]?=some x/\R x y)/\(X.length<=q\/∃x,X[q]?=some x/\R y x)/\Sep E (bC s 2 (bQ cR.vs (A++X++[y]++B))::L) w,
   λi j _=>(j-i).toNat,⟨0,X.length,bA,bA,bA,bA,.inl rfl,.inl (dN _),h⟩,?_⟩
  rintro _ i j aV ⟨p,q,rfl,rfl,aB,aJ,G,H,h1⟩;refine cL (λah=>⟨bO,Dr.i h1 (λw2 o=>?_)⟩) (λag=>?_)
  ·have C:((A.length:Int)+p+(A.length+q))/2=((A.length+(p+q)/2:Nat):Int):=by omega
   rw[half,C];have z:(p+q)/2<X.length:=by omega
   have hx:X[(p+q)/2]?=some (X[(p+q)/2]'z):=dD z;generalize X[(p+q)/2]'z=x at hx;have aC:x∈X:=eu hx;refine gP (A.length+X.length+0) o M bA (by rw[k7 (by simp)];rfl) (gP (A.length+(p+q)/2) o M rfl (by rw[k6 z];exact hx) ?_);refine aG.j bA o (λQ ab f=>?_) (λhf ab f=>?_);·exact⟨⟨p,(p+q)/2,rfl,bA,bA,bA,G,.inr ⟨x,hx,(K.ask x y (az x aC)).1 Q⟩,f⟩,by dsimp only;omega⟩
   ·rw[cH bA bA];exact⟨⟨(p+q)/2+1,q,bA,rfl,bA,aJ,.inr ⟨x,by simpa using hx,K.no (az x aC) hf⟩,H,f⟩,by dsimp only;omega⟩
  ·have W:p=q:=by omega
   subst W;have aE:A++X++[y]++B=A++ins X X.length y++B:=by rw[xY];simp
   rw[aE]at h1;refine⟨λk w=>∃t:Nat,k=A.length+t/\p<=t/\t<=X.length/\Sep E (bC s 2 (bQ cR.vs (A++ins X t y++B))::L) w,λk _=>(k-A.length).toNat,⟨X.length,rfl,bA,bA,h1⟩,?_⟩;rintro _ k w2 ⟨t,rfl,Q,a4,o⟩;have D:s.n=(A++ins X t y++B).length:=by
    have:=mN X t y;simp only[da,this];omega
   refine eW (λah=>Dr.i o (λab f=>?_)) (λag=>?_)
   ·obtain⟨O,rfl⟩:∃O,t=O+1:=⟨t-1,bA⟩
    rw[cH (n:=(A.length:Int)+((O+1:Nat):Int)-1) bA bA];have hx:X[O]?=some (X[O]'bA):=dL;generalize X[O]'(bA)=x at hx;refine gP (A.length+O) f D bA (by rw[kj bA bA,eG];exact hx) ?_;refine gP (A.length+(O+1)) f D bA (by rw[kj bA bA,cM,bM rfl]) ?_;refine kh (A.length+O+1) f D bA bA (λai u=>kh (A.length+O) u (by rw[dA];exact D) bA (by rw[dA];omega) (λaK J=>?_));rw[xZ hx]at J;exact⟨⟨O,bA,bA,bA,J⟩,by dsimp only;omega⟩
   ·have:t=p:=by omega
    subst this;exact⟨trivial,ins X t y,(s6 X t y).trans (lO (l₁:=[y]) (l₂:=X)),s9 K.ord aq G H,o⟩
 ·
  refine⟨bO,?_⟩;obtain⟨d,a9⟩:∃d,d=(X.length+Y.length)/2:=⟨_,rfl⟩
  have aI:((A.length:Int)+(A.length+X.length+Y.length))/2=((A.length+d:Nat):Int):=by omega
  rw[half,aI];rw[cH (n:=((A.length+d:Nat):Int)+(A.length+X.length)) bA bA];rw[cH (n:=((A.length+d:Nat):Int)+(A.length+X.length)-(A.length+X.length+Y.length)) bA bA];rw[cH (n:=((A.length+d:Nat):Int)+(A.length+X.length)-1) bA bA];obtain⟨aa,V⟩:∃aa,aa=if X.length>d then d-Y.length else 0:=⟨_,rfl⟩
  obtain⟨S,U⟩:∃S,S=if X.length>d then d else X.length:=⟨_,rfl⟩
  have au:aa<=S/\S<=d/\S<=X.length/\d<=aa+Y.length:=by
   rw[V,U];split<;>omega
  refine⟨λi j w=>i=A.length+aa/\j=A.length+S/\Sep E (bC s 2 (bQ cR.vs (A++X++Y++B))::L) w,?_,?_⟩
  ·refine eW (λa3=>?_) (λhle=>?_)
   ·refine⟨?_,?_,h⟩;·rw[V,eG];omega
    ·rw[U,eG];omega
   ·refine⟨?_,?_,h⟩;·rw[V,cM];omega
    ·rw[U,cM]
  rintro _ i0 bb aV ⟨rfl,rfl,h1⟩;refine⟨λi j w=>∃p q:Nat,i=A.length+p/\j=A.length+q/\aa<=p/\p<=q/\q<=S/\(p=aa\/∃x y,X[p-1]?=some x/\Y[d-p]?=some y/\R x y)/\(q=S\/∃x y,Y[d-q-1]?=some y/\X[q]?=some x/\R y x)/\
    Sep E (bC s 2 (bQ cR.vs (A++X++Y++B))::L) w,λi j _=>(j-i).toNat,⟨aa,S,rfl,rfl,dN _,au.1,dN _,.inl rfl,.inl rfl,h1⟩,?_⟩
  rintro _ i j w2 ⟨p,q,rfl,rfl,aP,aB,aQ,G,H,o⟩;refine cL (λah=>⟨bO,Dr.i o (λab f=>?_)⟩) (λag=>?_)
  ·have C:((A.length:Int)+p+(A.length+q))/2=((A.length+(p+q)/2:Nat):Int):=by omega
   rw[half,C];rw[cH (n:=((A.length+d:Nat):Int)+(A.length+X.length)-1-((A.length+(p+q)/2:Nat):Int)) bA bA];obtain⟨c,aN⟩:∃c,c=(p+q)/2:=⟨_,rfl⟩
   rw[<- aN];have ae:c<X.length:=by omega
   have af:d-1-c<Y.length:=by omega
   have hx:X[c]?=some (X[c]'ae):=dD ae;have l:Y[d-1-c]?=some (Y[d-1-c]'af):=dD af;generalize X[c]'ae=x at hx;generalize Y[d-1-c]'af=y at l;have an:=am x (eu hx) y (eu l);refine gP (A.length+X.length+(d-1-c)) f M bA (by rw[k7 af];exact l) (gP (A.length+c) f M bA (by rw[k6 ae];exact hx) ?_);refine aG.j bA f (λQ ai u=>?_) (λhf ai u=>?_)
   ·refine⟨⟨p,c,rfl,bA,aP,bA,bA,G,.inr ⟨x,y,?_,hx,(K.ask x y an).1 Q⟩,u⟩,by dsimp only;omega⟩;rw[show d-c-1=d-1-c by omega];exact l
   ·rw[cH bA bA];refine⟨⟨c+1,q,bA,rfl,bA,bA,aQ,.inr ⟨x,y,by simpa using hx,?_,K.no an hf⟩,H,u⟩,by dsimp only;omega⟩;rw[show d-(c+1)=d-1-c by omega];exact l
  ·have W:p=q:=by omega
   subst W;obtain⟨t,Q⟩:∃t,t=d-p:=⟨_,rfl⟩
   have ao:=x1 K.ord (X:=X) (Y:=Y) (i:=p) (j:=t) aq ar (by
    rcases G with e|⟨x,y,I,ad,aj⟩
    ·by_cases ap:X.length>d;·rw[bM ap]at V;right;left;omega
     ·rw[bJ ap]at V;left;omega
    ·exact .inr (.inr ⟨x,y,I,by rw[Q];exact ad,aj⟩)) (by
    rcases H with e|⟨x,y,I,ad,aj⟩
    ·by_cases ap:X.length>d;·rw[bM ap]at U;left;omega
     ·rw[bJ ap]at U;right;left;omega
    ·exact .inr (.inr ⟨x,y,by rw[Q];exact I,ad,aj⟩))
   have aT:(X.take p).length=p:=by simp;omega
   have aU:(Y.take t).length=t:=by simp;omega
   have a5:(X.drop p).length=X.length-p:=by simp
   have a6:(Y.drop t).length=Y.length-t:=by simp
   have aH:i64.wrap (((A.length+d:Nat):Int)+(A.length+X.length)-(A.length+p))=((A.length+X.length+t:Nat):Int):=by
    rw[cH bA bA];omega
   rw[aH];refine⟨λw=>Sep E (bC s 2 (bQ cR.vs (A++(X.take p++Y.take t)++(X.drop p++Y.drop t)++B))::L) w,?_,?_⟩
   ·refine⟨λc w=>c=decide (p<X.length/\0<t)/\Sep E (bC s 2 (bQ cR.vs (A++X++Y++B))::L) w,?_,?_⟩
    ·refine cL (λg=>⟨?_,o⟩) (λg=>⟨?_,o⟩)
     ·have:(decide ((A.length:Int)+X.length<((A.length+X.length+t:Nat):Int)))=decide (0<t):=by
       by_cases r:0<t;·rw[dh r,dh bA]
       ·rw[c4 r,c4 bA]
      rw[this];by_cases r:0<t;·rw[dh r,dh ⟨bA,r⟩]
      ·rw[c4 r,c4 (λC=>r C.2)]
     ·exact(c4 (λC=>bA)).symm
    rintro _ c ab ⟨rfl,f⟩;refine cw (λg=>?_) (λg=>?_)
    ·have g:=jL g;have I:A++X++Y++B=(A++X.take p)++X.drop p++Y.take t++(Y.drop t++B):=by
      simp only[dc];rw[<- dc (Y.take t),fA,<- dc (X.take p),fA]
     rw[I]at f;refine use (EP (cmp:=cmp) bA bA (by rw[<- I];exact M) (by rw[<- I];omega) f (by simp only[da];omega) (by simp only[da];omega) (by simp only[da];omega)) ?_;rintro _ ai ⟨rfl,u⟩;refine⟨rfl,?_⟩;have ad:(A++X.take p)++Y.take t++X.drop p++(Y.drop t++B)=A++(X.take p++Y.take t)++(X.drop p++Y.drop t)++B:=by simp
     rw[<- ad];exact u
    ·have g:=jo g;have ad:A++(X.take p++Y.take t)++(X.drop p++Y.drop t)++B=A++X++Y++B:=by
      by_cases r:p<X.length
      ·have:t=0:=by omega
       subst this;simp only[xA,hF,sM,dc];rw[<- dc (X.take p),fA]
      ·have aj:X.drop p= []:=jJ bA;have aX:X.take p=X:=hE bA;rw[aj,aX,lR];simp only[dc];rw[<- dc (Y.take t),fA]
     rw[ad];exact f
   rintro _ ab f;have aw:(X.take p).Pairwise R:=aq.sublist (oI _ _);have av:(X.drop p).Pairwise R:=aq.sublist (G4 _ _);have ay:(Y.take t).Pairwise R:=ar.sublist (oI _ _);have ax:(Y.drop t).Pairwise R:=ar.sublist (G4 _ _);refine⟨λw=>∃F,F.Perm (X.take p++Y.take t)/\F.Pairwise R/\Sep E (bC s 2 (bQ cR.vs (A++F++(X.drop p++Y.drop t)++B))::L) w,?_,?_⟩
   ·refine⟨λc w=>c=decide (0<p/\0<t)/\Sep E (bC s 2 (bQ cR.vs (A++(X.take p++Y.take t)++(X.drop p++Y.drop t)++B))::L) w,?_,?_⟩
    ·refine cL (λg=>⟨?_,f⟩) (λg=>⟨?_,f⟩)
     ·by_cases r:0<t;·rw[dh bA,dh ⟨bA,r⟩]
      ·rw[c4 bA,c4 (λC=>r C.2)]
     ·exact(c4 (λC=>bA)).symm
    rintro _ c ai ⟨rfl,u⟩;refine cw (λg=>?_) (λg=>?_)
    ·have g:=jL g;have I:A++(X.take p++Y.take t)++(X.drop p++Y.drop t)++B=A++X.take p++Y.take t++((X.drop p++Y.drop t)++B):=by simp
     rw[I]at u;refine use (aS bA bA bA aw ay (λx hx y l=>am x (mx hx) y (mx l)) (by simp only[da];omega) u rfl bA bA) ?_;rintro _ aK ⟨rfl,F,T,al,J⟩;refine⟨rfl,F,T,al,?_⟩;rw[dc (A++F)];exact J
    ·have g:=jo g;refine⟨_,.refl _,?_,u⟩;by_cases r:0<p
     ·have:t=0:=by omega
      subst this;simpa using aw
     ·have:p=0:=by omega
      subst this;simpa using ay
   rintro _ ai ⟨F,T,ak,u⟩;have a7:F.length=d:=by rw[T.length_eq,da,aT,aU];omega
   refine⟨λc w=>c=decide (p<X.length/\t<Y.length)/\Sep E (bC s 2 (bQ cR.vs (A++F++(X.drop p++Y.drop t)++B))::L) w,?_,?_⟩
   ·refine cL (λg=>⟨?_,u⟩) (λg=>⟨?_,u⟩)
    ·by_cases r:t<Y.length;·rw[dh bA,dh ⟨bA,r⟩]
     ·rw[c4 bA,c4 (λC=>r C.2)]
    ·exact(c4 (λC=>bA)).symm
   rintro _ c aK ⟨rfl,J⟩;refine cw (λg=>?_) (λg=>?_)
   ·have g:=jL g;have I:A++F++(X.drop p++Y.drop t)++B=(A++F)++X.drop p++Y.drop t++B:=by simp
    rw[I]at J;refine use (aS bA bA bA av ax (λx hx y l=>am x (uL hx) y (uL l)) (by simp only[da];omega) J (by simp only[da];omega) (by simp only[da];omega) (by simp only[da];omega)) ?_;rintro _ bc ⟨rfl,aW,al,aF,aY⟩;have:=jv T al ak aF ao;refine⟨rfl,rfl,F++aW,this.1,this.2,?_⟩;rw[<- dc A];exact aY
   ·have g:=jo g;have aR:(X.drop p++Y.drop t).Pairwise R:=by
     by_cases r:p<X.length
     ·have:Y.drop t= []:=jJ bA;rw[this,hF];exact av
     ·have:X.drop p= []:=jJ bA;rw[this,lR];exact ax
    have:=jv T (.refl _) ak aR ao;refine⟨rfl,F++(X.drop p++Y.drop t),this.1,this.2,?_⟩;rw[<- dc A];exact J
end
end Go.Mp.Sh
namespace Go.Mp.Sh
open Go Go.Vc Go.Sp Go.Stab Go.Mp
section
variable{E:Env}{L:ch}{w:World}{s:Sl}{cmp:Value}{lt:cR->cR->Bool}{R b:cR->cR->Prop}
def fe(b:cR->cR->Prop)(X Y:List cR):Prop:=∀x∈X,∀y∈Y,b x y
def fe.merge{Ps Qs:List (List cR)}{X Y Z:List cR}(h:(Ps++X::Y::Qs).Pairwise (fe b))(l:Z.Perm (X++Y)):(Ps++Z::Qs).Pairwise (fe b):=by
 have hm:∀z,z∈Z->z∈X\/z∈Y:=λz a=>h6.1 (l.mem_iff.1 a);rw[jf,g5,g5]at h;rw[jf,g5];obtain⟨h1,⟨i,j,k⟩,e⟩:=h;refine⟨h1,⟨λQ c z a y g=>?_,k⟩,λd f Q c=>?_⟩
 ·rcases hm z a with a|a;·exact i Q (by simp[c]) z a y g
  ·exact j Q c z a y g
 ·rcases ey.1 c with rfl|c
  ·intro x hx z a;rcases hm z a with a|a;·exact e d f X (by simp) x hx z a
   ·exact e d f Y (by simp) x hx z a
  ·exact e d f Q (by simp[c])
def fe.perm{Ps Qs:List (List cR)}{X Z:List cR}(h:(Ps++X::Qs).Pairwise (fe b))(j:Z.Perm X):(Ps++Z::Qs).Pairwise (fe b):=by
 have hm:∀z,z∈Z->z∈X:=λz c=>j.mem_iff.1 c;rw[jf,g5]at h ⊢;obtain⟨h1,⟨g,i⟩,e⟩:=h;refine⟨h1,⟨λQ a z c y k=>g Q a z (hm z c) y k,i⟩,λd f Q a=>?_⟩;rcases ey.1 a with rfl|a;·intro x hx z c;exact e d f X (by simp) x hx z (hm z c)
 ·exact e d f Q (by simp[a])
def fe.split{Ps:List (List cR)}{a M2:List cR}(h:(Ps++[a++M2]).Pairwise (fe b))(c:(a++M2).Pairwise b):(Ps++[a,M2]).Pairwise (fe b):=by
 rw[jf]at h c ⊢;obtain⟨h1,_,g⟩:=h;refine⟨h1,by simpa[fe]using c.2.2,λf i Q d x hx y e=>?_⟩;have:=g f i (a++M2) (by simp) x hx y;simp only[ey,ra,ri]at d;rcases d with rfl|rfl;·exact this (by simp[e])
 ·exact this (by simp[e])
def fm(R:cR->cR->Prop)(b:Nat)(a:List (List cR)):Prop:=∀F∈a,F.length=b/\F.Pairwise R
def fm.length{b:Nat}:∀ {a:List (List cR)},fm R b a->a.flatten.length=b*a.length
 |[],_=>by simp
 |F::a,h=>by
  have h1:=(h F (by simp)).1;have c:a.flatten.length=b*a.length:=fm.length (λG d=>h G (by simp[d]));rw[uO,da,h1,c,hS,na,fC,rf]
def fm.snoc{b:Nat}{c:List (List cR)}{F:List cR}(h:fm R b c)(h1:F.length=b)(d:F.Pairwise R):fm R b (c++[F]):=by
 intro G a;rcases h6.1 a with a|a;·exact h G a
 ·rw[iD.1 a];exact⟨h1,d⟩
def ER{l:List cR}(K:k4 R b lt)(aj:l.Pairwise b)(x:s.n=l.length)(ak:l.length<288230376151711744)(U:gx E L s cmp lt l.length)(h:Sep E (bC s 2 (bQ cR.vs l)::L) w):
  Calls P Ke #[Sv s,Iv (s.n:Nat),cmp] w (bW λv w'=>v=.tuple #[]/\∃l',l'.Perm l/\l'.Pairwise R/\Sep E (bC s 2 (bQ cR.vs l')::L) w'):=by
 apply YV;unfold Na qE qI qO;rw[x];refine⟨λa e w=>∃c M,a=(20*c.length:Nat)/\e=(20*c.length+20:Nat)/\fm R 20 c/\M.Pairwise b/\(c++[M]).Pairwise (fe b)/\(c.flatten++M).Perm l/\Sep E (bC s 2 (bQ cR.vs (c.flatten++M))::L) w,λa _ _=>(l.length-a).toNat,
  ⟨[],l,rfl,rfl,λF i=>(by cases i),aj,by simp,by simp,by simpa using h⟩,?_⟩
 rintro _ a e aw ⟨c,M,rfl,rfl,i,V,p,j,h1⟩;have hlen:=j.length_eq;have k:=i.length;rw[da,k]at hlen;refine hN (λhle=>?_) (λag=>?_)
 ·have m:c.flatten++M=c.flatten++M.take 20++M.drop 20:=by rw[dc,fA]
  have ah:(M.take 20).length=20:=by simp;omega
  have u:=V;rw[<- fA 20 M]at u p;have af:=fe.split p u;rw[jf]at u;have G:(c.flatten++M.take 20++M.drop 20).length=l.length:=by rw[<- m];exact j.length_eq
  rw[m]at h1;rw[<- x];refine use (wm K u.1 (by rw[G];exact x) bA (by rw[G];exact U) h1 (by rw[k]) (by rw[k,ah];omega)) ?_;rintro _ w2 ⟨rfl,ab,I,ae,D⟩;rw[cH bA bA];have an:ab.length=20:=by rw[I.length_eq,ah]
  refine⟨rfl,⟨c++[ab],M.drop 20,by simp;omega,by simp;omega,i.snoc an ae,u.2.1,?_,?_,?_⟩,by dsimp only;omega⟩
  ·have:=fe.perm (Ps:=c) (Qs:=[M.drop 20]) af I;simpa using this
  ·refine List.Perm.trans ?_ j;rw[m];simp only[GV,uO,A2,hF];exact(I.append_left _).append_right _
  ·simpa using D
 ·have m:c.flatten++M=c.flatten++M++[]:=by simp
  rw[m]at h1;rw[<- x];refine use (wm K V (by rw[<- m,j.length_eq];exact x) (by rw[<- m,j.length_eq];omega) (by rw[<- m,j.length_eq];exact U) h1 (by rw[k]) (by rw[k];omega)) ?_;rintro _ w2 ⟨rfl,T,Y,q,D⟩;rw[hF]at D;have av:=Y.length_eq;refine⟨rfl,λz w=>∃(f:Nat) (c:List (List cR)) (T:List cR),z=f/\20<=f/\fm R f c/\T.length<f/\T.Pairwise R/\(c++[T]).Pairwise (fe b)/\(c.flatten++T).Perm l/\Sep E (bC s 2 (bQ cR.vs (c.flatten++T))::L) w,λz _=>(l.length-z).toNat,
   ⟨20,c,T,rfl,dN _,i,bA,q,fe.perm p Y,(Y.append_left _).trans j,D⟩,?_⟩
  rintro _ z ax ⟨f,c,T,rfl,aq,i,N,q,p,j,S⟩;have hlen:=j.length_eq;have k:=i.length;rw[da,k]at hlen;refine cL (λau=>?_) (λar=>⟨rfl,_,j,?_,S⟩)
  ·have am:f<l.length:=by omega
   rw[cH (n:=2*(f:Int)) bA bA];refine⟨λa e w=>∃d c T,a=(2*f*d.length:Nat)/\e=(2*f*d.length+2*f:Nat)/\fm R (2*f) d/\fm R f c/\T.length<f/\T.Pairwise R/\(d++(c++[T])).Pairwise (fe b)/\
     (d.flatten++(c.flatten++T)).Perm l/\Sep E (bC s 2 (bQ cR.vs (d.flatten++(c.flatten++T)))::L) w,λa _ _=>(l.length-a).toNat,
    ⟨[],c,T,by simp,by simp,λF i=>(by cases i),i,N,q,by simpa using p,by simpa using j,by simpa using S⟩,?_⟩
   rintro _ a e ay ⟨d,c,T,rfl,rfl,X,i,N,q,p,j,y⟩;have hlen:=j.length_eq;have t:=X.length;have k:=i.length;rw[da,da,k,t]at hlen;have hmul:f*c.length<=l.length:=by omega
   have ai:2*f*d.length<=l.length:=by omega
   rw[cH (n:=((2*f*d.length:Nat):Int)+f) bA bA];refine hN (λhle=>?_) (λag=>?_)
   ·obtain⟨r,o,g,rfl⟩:∃r o g,c=r::o::g:=by
     match c,hlen with
     |[],aa=>simp at aa;omega
     |[F],aa=>simp at aa;omega
     |r::o::g,_=>exact⟨r,o,g,rfl⟩
    have f1:=i r (by simp);have f2:=i o (by simp);have A:=p;rw[jf]at A;have Q:fe b r o:=(g5.1 A.2.1).1 o (by simp);have m:d.flatten++((r::o::g).flatten++T)=d.flatten++r++o++(g.flatten++T):=by simp
    have G:(d.flatten++r++o++(g.flatten++T)).length=l.length:=by rw[<- m];exact j.length_eq
    rw[m]at y;rw[<- x];refine use (wo K bA x U _ (dN _) bA bA f1.2 f2.2 Q G y (by rw[t]) (by rw[t,f1.1]) (by rw[t,f1.1,f2.1];omega)) ?_;rintro _ ap ⟨rfl,Z,B,O,H⟩;have ao:Z.length=2*f:=by rw[B.length_eq,da,f1.1,f2.1];omega
    rw[cH bA bA];refine⟨rfl,⟨d++[Z],g,T,?_,?_,X.snoc ao O,λF ad=>i F (by simp[ad]),N,q,?_,?_,?_⟩,?_⟩;·rw[da,lP,na,fC]
    ·rw[da,lP,na,fC];omega
    ·have:=fe.merge (Ps:=d) (Qs:=g++[T]) (by simpa using p) B;simpa using this
    ·refine List.Perm.trans ?_ j;rw[m];simp only[GV,uO,A2,hF];have:d.flatten++r++o++(g.flatten++T)=d.flatten++(r++o)++(g.flatten++T):=by simp
     rw[this];exact(B.append_left _).append_right _
    ·simpa using H
    ·dsimp only;omega
   ·have fin:∀ {T':List cR} {w':World},T'.length<2*f->T'.Pairwise R->T'.Perm (c.flatten++T)->(d++[T']).Pairwise (fe b)->Sep E (bC s 2 (bQ cR.vs (d.flatten++T'))::L) w'->
      ((∃(C:Nat) (c:List (List cR)) (T:List cR),i64.wrap ((f:Int)*2)=C/\20<=C/\fm R C c/\T.length<C/\T.Pairwise R/\(c++[T]).Pairwise (fe b)/\(c.flatten++T).Perm l/\Sep E (bC s 2 (bQ cR.vs (c.flatten++T))::L) w')/\
       (l.length-i64.wrap ((f:Int)*2)).toNat<(l.length-(f:Int)).toNat):=by
     intro T' w' h1 D S y H;rw[cH bA bA];exact⟨⟨2*f,d,T',bA,bA,X,h1,D,y,(S.append_left _).trans j,H⟩,bA⟩
    rcases c with _|⟨F,_|⟨o,g⟩⟩
    ·refine cL (λW=>?_) (λ_=>?_);·exfalso;simp at hlen;omega
     ·exact fin (T':=T) bA q (by simp) (by simpa using p) (by simpa using y)
    ·have f1:=i F (by simp);simp only[lP,fC]at hlen;refine cL (λW=>?_) (λW=>?_)
     ·have A:=p;rw[jf]at A;have Q:fe b F T:=(g5.1 A.2.1).1 T (by simp);have m:d.flatten++([F].flatten++T)=d.flatten++F++T++[]:=by simp
      have G:(d.flatten++F++T++[]).length=l.length:=by rw[<- m];exact j.length_eq
      rw[m]at y;rw[<- x];refine use (wo K bA x U _ (dN _) bA bA f1.2 q Q G y (by rw[t]) (by rw[t,f1.1]) (by rw[t,f1.1];omega)) ?_;rintro _ ap ⟨rfl,Z,B,O,H⟩;refine⟨rfl,?_⟩;rw[x];refine fin (T':=Z) (by rw[B.length_eq,da,f1.1];omega) O (by simpa using B) ?_ (by simpa using H);exact fe.merge (Ps:=d) (Qs:=[]) (by simpa using p) B
     ·have J:T= []:=by
       have:T.length=0:=by omega
       exact AW.1 this
      subst J;refine fin (T':=F) bA f1.2 (by simp) ?_ (by simpa using y);have:(d++F::[]::[]).Pairwise (fe b):=by simpa using p
      exact fe.merge (Ps:=d) (Qs:=[]) this (by simp)
    ·exfalso;simp only[hS,na,fC]at hlen;omega
  ·have al:l.length<=f:=by omega
   match c,i,k,hlen,p with
   |[],_,_,_,_=>simpa using q
   |[F],i,_,hlen,_=>
    have f1:=i F (by simp);have J:T= []:=by
     have:T.length=0:=by simp at hlen;omega
     exact AW.1 this
    subst J;simpa using f1.2
   |r::o::g,_,_,hlen,_=>
    exfalso;simp only[hS,na,fC]at hlen;omega
def ES{l:List cR}(K:k4 R b lt)(c:l.Pairwise b)(e:s.n=l.length)(a:l.length<288230376151711744)(d:gx E L s cmp lt l.length)(h:Sep E (bC s 2 (bQ cR.vs l)::L) w):
  Calls P JZ #[Sv s,cmp] w (bW λv w'=>v=.tuple #[]/\∃l',l'.Perm l/\l'.Pairwise R/\Sep E (bC s 2 (bQ cR.vs l')::L) w'):=by
 apply Yx;unfold MO qE;refine use (ER K c e a d h) ?_;rintro _ f ⟨rfl,h1⟩;exact⟨rfl,rfl,h1⟩
end
end Go.Mp.Sh
namespace Go.Proofs
open Go.Shelf
def Tryz.k8:Go.Shelf.Ren:=⟨fun|15=>188|n=>n,fun|22=>22|3=>3|4=>4|n=>n,fun|n=>n⟩
def Tryz.nJ:Go.Proofs.Lays2.n15 Tryz.prog Tryz.k8:={
 mixed:=by kernel_rfl
 f15:=Tryz.func188.trans (eO some cr)
 t3:=Tryz.underlying3
 a3:=Tryz.isAgg3
 z3:=Tryz.sizeOf3
 v3:=Tryz.zeroValue3
 t4:=Tryz.underlying4
 a4:=Tryz.isAgg4
 z4:=Tryz.sizeOf4
 v4:=Tryz.zeroValue4
 t22:=Tryz.underlying22
 a22:=Tryz.isAgg22
 z22:=Tryz.sizeOf22
 v22:=Tryz.zeroValue22
 i3:=by kernel_rfl}
end Go.Proofs
namespace Go.Mp
open Go Go.Vc Go.Sp
variable{E:Env}{L:ch}{w:World}
def clear.i{b o n c:Nat}{C:List Value}{st ty:TypeId}{cG m:Nat}{zs:List Value}(h:Sep E (bE b C::L) w)(l:g9 P st=some (cG,m,zs))(D:zs.length=m)(g:∀v∈zs,v.oneCell'=true)(F:o+n*m<=C.length){G:bh6}(k:∀a,Sep E (bE b (hV C o (Builtin.zeroCells zs.toArray n).toList)::L) a->G a):
  ∃a,Sem.run P (Builtin.clear_ #[st] ty #[.slice (some ⟨b,o,none⟩) n c]) w=.ok (.tuple #[]) a/\G a:=by
 obtain⟨e,i,z,t,A,y,p,s,x⟩:=pQ l;subst p s x;cases n with
 |zero=>
  refine⟨w,by simp[Builtin.clear_,run_underlying t],k _ ?_⟩;simpa[Builtin.zeroCells,hV]using h
 |succ n=>
  have H:(Builtin.zeroCells z.cells (n+1)).toList.length=(n+1)*i.size:=by rw[tQ,<- D];simp
  have d:=run_storeCells_cells (P:=P) b o (Builtin.zeroCells z.cells (n+1)).toList 0 w (λj B=>h.isSome bA) (λj B=>h.rz bA) (λu hu=>by
   simp only[Builtin.zeroCells,Array.toList_map,e4]at hu;obtain⟨q,l,rfl⟩:=hu;have r:q%z.cells.size<z.cells.size:=by
    refine kx _ ?_;rcases lq z.cells.size with f|f;·simp[f]at l
    ·exact f
   have:z.cells[q%z.cells.size]! =z.cells[q%z.cells.size]:=by simp[r]
   rw[this];exact g _ (by simp))
  refine⟨w.setCells b o (Builtin.zeroCells z.cells (n+1)).toList,?_,k _ (by simpa using h.setCells _ _)⟩;simp only[lu]at d;simp[Builtin.clear_,run_underlying t,zeroValue,typeInfo,A,y,d]
def wq(E:Env)(del:Value)(q:Int->Bool)(M:ch)(D:Int->Prop):Prop:=
 ∀x w,D x->Sep E M w->eX P del #[Iv x] w λe w'=>e=.returned (.bool (q x))/\Sep E M w'
def Qz{s:Sl}{l:bU}{del:Value}{q:Int->Bool}(A:wq E del q (bC s 1 (bD l)::L) (· ∈l))(H:s.n=l.length)(G:l.length<4611686018427387904)(h:Sep E (bC s 1 (bD l)::L) w):
  Calls P Du #[Sv s,del] w (bW λv w'=>∃i:Int,v=Iv i/\((i= -1/\∀x∈l,q x=false)\/(0<=i/\i<l.length/\(∀j x,j<i.toNat->l[j]?=some x->q x=false)/\∀x,l[i.toNat]?=some x->q x=true))/\Sep E (bC s 1 (bD l)::L) w'):=by
 apply Yk;unfold MG qD qO qW;refine⟨λi w=>(0<=i/\i<=l.length)/\(∀j x,j<i.toNat->l[j]?=some x->q x=false)/\Sep E (bC s 1 (bD l)::L) w,λi _=>(l.length-i).toNat,⟨⟨bA,bA⟩,λj x g=>by simp at g,h⟩,?_⟩;rintro _ i C ⟨⟨k,F⟩,a,h1⟩;refine cL (λz=>?_) (λD=>?_)
 ·have p:i<l.length:=by omega
  have hx:l[i.toNat]?=some (l[i.toNat]'bA):=dL;refine bC.el 0 h1 rfl k bA (λb hp u=>?_);have f:=u 0 bA;refine⟨l[i.toNat]'bA,f.trans (by simp[hx]),?_⟩;obtain⟨y,ca,r,t,d⟩:=A (l[i.toNat]'bA) C (m7 _) h1;refine⟨y,ca,r,t,d.mono ?_⟩;rintro e w2 ⟨rfl,n⟩;refine⟨_,rfl,cw (λB=>⟨i,rfl,.inr ⟨k,p,a,λx m=>?_⟩,n⟩) (λhf=>?_)⟩;·rw[hx]at m;rw[<- cQ m];exact B
  ·rw[cH bA bA];refine⟨⟨⟨bA,bA⟩,λj x g c=>?_,n⟩,by show(l.length-(i+1)).toNat<(l.length-i).toNat;omega⟩;by_cases o:j<i.toNat;·exact a j x o c
   ·have:j=i.toNat:=by omega
    subst this;rw[hx]at c;rw[<- cQ c];exact hf
 ·refine⟨-1,rfl,.inl ⟨rfl,λx hx=>?_⟩,h1⟩;obtain⟨j,g,rfl⟩:=h5.1 hx;exact a j _ bA (dD g)
def QA{s:Sl}{l:bU}{del:Value}{q:Int->Bool}(V:∀m:bU,m.length=l.length->wq E del q (bC s 1 (bD m)::L) (· ∈l))(T:s.n=l.length)(Z:l.length<4611686018427387904)(h:Sep E (bC s 1 (bD l)::L) w):
  Calls P C2 #[Sv s,del] w (bW λv w'=>∃s':Sl,v=.slice s'.p s'.n s'.c/\s'.n=(l.filter λx=> !q x).length/\Sep E (bC s' 1 (bD (l.filter λx=> !q x))::L) w'):=by
 apply XD;unfold L3 qD qI qQ qW;refine use (Qz (V l rfl) T Z h) ?_;rintro _ ar ⟨i,rfl,aa,h1⟩;refine⟨i,rfl,?_⟩;rcases aa with⟨rfl,G⟩|⟨ai,aj,N,Q⟩
 ·have e:l.filter (λx=> !q x)=l:=by
   rw[AX];intro x hx;simp[G x hx]
  refine eD (λ_=>⟨s,rfl,by rw[e];exact T,by rw[e];exact h1⟩) (λF=>absurd rfl F)
 ·refine eD (λF=>bA) (λ_=>?_);rw[cH bA bA];have u:(l.take i.toNat).filter (λx=> !q x)=l.take i.toNat:=by
   rw[AX];intro x hx;obtain⟨j,ab,rfl⟩:=h5.1 hx;simp only[g7]at ab;have:=N j l[j] bA (dL);rw[List.getElem_take];simp[this]
  have I:(l.take (i.toNat+1)).filter (λx=> !q x)=l.take i.toNat:=by
   have J:l[i.toNat]?=some (l[i.toNat]'bA):=dL;rw[mA,J,sJ,u];simp[Q _ J]
  refine⟨λa j w=>(i+1<=j/\j<=l.length)/\∃m:bU,m.length=l.length/\a=((l.take j.toNat).filter λx=> !q x).length/\m.take a.toNat=(l.take j.toNat).filter (λx=> !q x)/\m.drop j.toNat=l.drop j.toNat/\Sep E (bC s 1 (bD m)::L) w,
   λ_ j _=>(l.length-j).toNat,⟨⟨bA,bA⟩,l,rfl,?_,?_,rfl,h1⟩,?_⟩
  ·have k:(i+1).toNat=i.toNat+1:=by omega
   rw[k,I];simp;omega
  ·have k:(i+1).toNat=i.toNat+1:=by omega
   rw[k,I]
  rintro _ a j w2 ⟨⟨ak,al⟩,m,hm,Y,c,p,M⟩;have O:((l.take j.toNat).filter λx=> !q x).length<=j.toNat:=by
   refine mD (lp _ _) ?_;simp;omega
  refine cL (λad=>?_) (λah=>?_)
  ·have ao:j<l.length:=by omega
   have z:l[j.toNat]?=some (l[j.toNat]'bA):=dL;have H:m[j.toNat]?=some (l[j.toNat]'bA):=by
    have:(m.drop j.toNat)[0]?=(l.drop j.toNat)[0]? :=by rw[p]
    simpa[z]using this
   generalize af:l[j.toNat]'(bA)=v at z H;have X:v∈l:=by rw[<- af];exact m7 _
   refine bC.el 0 M rfl bA bA (λb hp B=>?_);have D:=B 0 bA;refine⟨v,D.trans (by simp[H]),?_⟩;obtain⟨F,ca,k,K,C⟩:=V m hm v w2 X M;refine⟨F,ca,k,K,C.mono ?_⟩;rintro e au ⟨rfl,r⟩;have d:(j+1).toNat=j.toNat+1:=by omega
   have g:(l.take (j.toNat+1)).filter (λx=> !q x)=(l.take j.toNat).filter (λx=> !q x)++(if q v then[]else[v]):=by
    rw[mA,z,sJ];cases n:q v<;>simp[n]
   have o:m.drop (j.toNat+1)=l.drop (j.toNat+1):=by
    rw[<- n0,<- n0,p]
   refine⟨_,rfl,cw (λhf=>?_) (λae=>?_)⟩
   ·have n:q v=false:=by simpa using hf
    rw[n]at g;refine bC.el 0 r rfl bA bA (λap U _=>?_);refine bC.st r U (by simp;omega) (λt f=>?_);rw[cH bA bA,cH bA bA];refine⟨⟨⟨bA,bA⟩,m.set a.toNat v,by simpa using hm,?_,?_,?_,?_⟩,by show(l.length-(j+1)).toNat<(l.length-j).toNat;omega⟩;·rw[d,g];simp;omega
    ·have k:(a+1).toNat=a.toNat+1:=by omega
     rw[k,d,g,mA,T0 (dN _),c,iM bA];simp
    ·rw[d,T1 bA];exact o
    ·have K:(bD m).set (a.toNat*1) (Iv v)=bD (m.set a.toNat v):=by simp[bD,hq]
     rw[K]at f;exact f
   ·have n:q v=true:=by simpa using ae
    rw[n]at g;rw[cH bA bA];refine⟨⟨⟨bA,bA⟩,m,hm,?_,?_,?_,r⟩,by show(l.length-(j+1)).toNat<(l.length-j).toNat;omega⟩;·rw[d,g];simp;omega
    ·rw[d,g];simpa using c
    ·rw[d];exact o
  ·have R:l.take j.toNat=l:=hE bA;rw[R]at Y c O;have hle:=lp (λx=> !q x) l;obtain⟨b,spare,hp,am,y,an,r⟩:=bC.h2 M bA;refine⟨⟨bA,bA⟩,?_⟩;rw[hp];have W:gb (some ⟨b,0,none⟩) a.toNat s.c 1=some ⟨b,if s.c=a.toNat then 0 else a.toNat,none⟩:=by
    unfold gb;split;·rfl
    ·simp
   rw[W];have fin:∀ {t:World} {rest:List Value},rest.length+a.toNat=s.c->Sep E (bE b (bD (l.filter λx=> !q x)++rest)::L) t->(0<=a/\a<=(s.c:Int))/\∃s':Sl,Value.slice (gb (some ⟨b,0,none⟩) 0 s.c 1) (a.toNat-0) (s.c-0)=.slice s'.p s'.n s'.c/\s'.n=(l.filter λx=> !q x).length/\Sep E (bC s' 1 (bD (l.filter λx=> !q x))::L) t:=by
    intro t rest aq f;refine⟨⟨bA,bA⟩,⟨some ⟨b,0,none⟩,a.toNat,s.c⟩,?_,by dsimp only;omega,bC.make f (by simp;omega) (by simp;omega) bA⟩;unfold gb;split<;>simp
   have S:bD m=bD (l.filter λx=> !q x)++(bD m).drop a.toNat:=by
    have:bD (l.filter λx=> !q x)=(bD m).take a.toNat:=by
     rw[<- c];simp[bD,List.map_take]
    rw[this,fA]
   by_cases B:s.c=a.toNat
   ·rw[bM B];have ag:s.n-a.toNat=0:=by omega
    rw[ag];refine clear.i r (cG:=8) (m:=1) (zs:=[Iv 0]) cr rfl (by simp[Value.oneCell']) (by simp) (λt f=>?_);refine fin (rest:=(bD m).drop a.toNat++spare) (by simp at y ⊢;omega) ?_;have e:hV (bD m++spare) 0 (Builtin.zeroCells [Value.int .i64 0].toArray 0).toList=bD (l.filter λx=> !q x)++((bD m).drop a.toNat++spare):=by
     rw[<- dc,<- S];simp[Builtin.zeroCells,hV]
    rw[e]at f;exact f
   ·rw[bJ B];refine clear.i r (cG:=8) (m:=1) (zs:=[Iv 0]) cr rfl (by simp[Value.oneCell']) (by simp;omega) (λt f=>?_);have A:=tQ [Value.int .i64 0].toArray (s.n-a.toNat);refine fin (rest:=(Builtin.zeroCells [Value.int .i64 0].toArray (s.n-a.toNat)).toList++spare) (by simp at y A ⊢;omega) ?_;have e:hV (bD m++spare) a.toNat (Builtin.zeroCells [Value.int .i64 0].toArray (s.n-a.toNat)).toList=bD (l.filter λx=> !q x)++((Builtin.zeroCells [Value.int .i64 0].toArray (s.n-a.toNat)).toList++spare):=by
     rw[oU _ _ _ (by simp at y A ⊢;omega),A];rw[sE (by simp;omega),T8];have k:(bD m).take a.toNat=bD (l.filter λx=> !q x):=by rw[<- c];simp[bD,List.map_take]
     rw[k,jJ (by simp;omega)];simp only[lR,dc];congr 2;have:a.toNat+(s.n-a.toNat)* [Value.int i64 0].toArray.size-(bD m).length=0:=by simp;omega
     rw[this,sM]
    rw[e]at f;exact f
end Go.Mp
namespace Go.Mp
open Go Go.Vc Go.Sp Go.Proofs Go.Kc
variable{E:Env}{L:ch}{w:World}
def QB{s:Sl}{l:bU}{q:Nat}(h:Sep E L w)(o:L[q]?=some (bC s 1 (bD l)))(n:s.n=l.length)(y:l.length<=1000000):
  Calls P vC #[.slice s.p s.n s.c] w (bW λv w'=>∃s':Sl,v=.slice s'.p s'.n s'.c/\s'.n=l.length/\Sep E (bC s' 1 (bD l)::L) w'):=by
 have b:=h.fr q o;unfold bC at b;cases hp:s.p with
 |none=>
  rw[hp]at b;obtain⟨⟨_,_,d⟩,_⟩:=Sep.cC.1 b;have d:l= []:=List.map_eq_nil_iff.1 d;subst d;refine(Any.slices_Clone_int_nil Tryz.nJ s.n s.c w).mono ?_;rintro e r ⟨rfl,rfl⟩;exact⟨_,rfl,⟨none,0,0⟩,rfl,rfl,bC.none_ h⟩
 |some a=>
  rw[hp]at b;obtain⟨spare,b⟩:=Sep.ex.1 b;obtain⟨⟨ho,p,d,_,_⟩,b⟩:=Sep.cC.1 b;obtain⟨g,u,x⟩:=a;cases ho;cases p;have m:∀j,j<l.length->w.cell? ⟨g,0+j,none⟩=some (.int .i64 (l.getD j 0)):=by
   intro j i;rw[e5,bC.cell b (by simpa using i)];simp[List.getD,dD i]
  refine(Any.slices_Clone_int Tryz.nJ g 0 s.n s.c l w bA bA m).mono ?_;rintro e r ⟨v,rfl,c,t,f⟩;rw[n,fN]at c;obtain⟨s',rfl,k,h1⟩:=Ec h c f;exact⟨_,rfl,s',rfl,k,h1⟩
def aIF{x y:Nat}(hx:x<4294967296)(d:x*y<18446744073709551616)(k:y<18446744073709551616)(w:World):Calls P yT #[.int .u64 (x:Nat),.int .u64 (y:Nat)] w (bW λv w'=>v=.tuple #[.int .u64 0,.int .u64 ((x*y:Nat):Int)]/\w'=w):=by
 apply M8;unfold D3;have i:(x:Int).fdiv (2^(min (32:Int).toNat 64))=((0:Nat):Int):=by
  rw[show(x:Int).fdiv (2^(min (32:Int).toNat 64))=((x/2^32:Nat):Int)from sh x 32,A4 bA]
 have c:∀z:Nat,(z:Int).fdiv (2^(min (32:Int).toNat 64))=((z/4294967296:Nat):Int):=λz=>sh z 32;have m:∀ {z:Nat},z<18446744073709551616->bV .u64 (z:Int) 4294967295=((z%4294967296:Nat):Int):=by
  intro z f;have h:=nC (a:=z) (b:=4294967295) f bA;have e:z &&& 4294967295=z%4294967296:=q5 z 32;rw[e]at h;exact h
 have f:x*y=x*(y%4294967296)+x*(y/4294967296)*4294967296:=by
  conv=>lhs;rw[<- Nat.mod_add_div y 4294967296]
  rw[na,sO 4294967296,Hj]
 rw[i,c y,m (z:=x) bA,m k,lQ hx];have g:∀a:Int,((0:Nat):Int)*a=((0:Nat):Int):=λa=>by simp
 rw[g,g,dj (n:=0) bA,<- uS,<- uS,<- uS];generalize x*(y%4294967296)=p at*
 generalize x*(y/4294967296)=r at*
 have j:p/4294967296+r<4294967296:=by omega
 rw[dj (n:=p) bA,c p];rw[show((0:Nat):Int)+((p/4294967296:Nat):Int)=((p/4294967296:Nat):Int) by omega,dj (n:=p/4294967296) bA];rw[m bA,dj (n:=r) bA,lQ (a:=p/4294967296) bA,<- pF,dj (n:=p/4294967296+r) bA,c,c,A4 j,A4 (a:=p/4294967296) bA,dj d];refine⟨bO,bO,bO,bO,bO,?_,rfl⟩;simp[nB]
def Af{l:bU}{k:Nat}{x:Int}(hx:l[k]?=some x):cn (l.take (k+1))=cn (l.take k)+x:=by
 rw[fw hx];simp[cn,A1]
def ET{l:bU}(a:∀x∈l,0<=x/\x<=top):∀k,k<=l.length->0<=cn (l.take k)/\cn (l.take k)<=k*1099511627776
 |0,_=>by simp[cn]
 |k+1,h=>by
  have hx:l[k]?=some (l[k]'bA):=dL;have h1:=ET a k bA;have b:=a _ (m7 (by omega:k<l.length));rw[Af hx];rw[ou]at b;omega
def EU{s:Sl}{l:bU}(a:Ints E L s l)(b:∀x∈l,0<=x/\x<=top)(g:l.length<=64)(h:Sep E L w):
  Calls P vD #[.slice s.p s.n s.c] w (bW λv w'=>v=.int .i64 (cn l)/\Sep E L w'):=by
 apply XW;unfold Mh qD qI qW;refine⟨λn i w'=>(∃k:Nat,i=k/\k<=l.length/\n=cn (l.take k))/\Sep E L w',λ_ i _=>(l.length-i).toNat,⟨⟨0,rfl,ec _,rfl⟩,h⟩,?_⟩;rintro _ n i o ⟨⟨k,rfl,j,rfl⟩,h1⟩;have m:=a.1;refine cL (λd=>?_) (λc=>?_)
 ·have hx:l[k]?=some (l[k]'bA):=dL;refine a.el h1 k rfl hx ?_;have f:=ET b (k+1) bA;have e:=Af hx;rw[c1,cH bA bA];exact⟨⟨⟨k+1,rfl,bA,e.symm⟩,h1⟩,by show(((l.length:Nat):Int)-((k+1:Nat):Int)).toNat<(((l.length:Nat):Int)-(k:Int)).toNat;omega⟩
 ·have:k=l.length:=by omega
  subst this;rw[fN];exact⟨rfl,h1⟩
def aIP(x:Int)(w:World):Calls P Dy #[.int .i64 x] w (bW λv w'=>v=.bool (!(decide (0<=x)&&decide (x<=top)))/\w'=w):=by
 apply Yv;unfold MM;have:=ou;refine cL (λc=>⟨?_,rfl⟩) (λb=>⟨?_,rfl⟩);·rw[c4 (show ¬ 0<=x by omega)];rfl
 ·rw[dh (show 0<=x by omega),ou];by_cases a:x>1099511627776;·rw[dh a,c4 (show ¬ x<=1099511627776 by omega)];rfl
  ·rw[c4 a,dh (show x<=1099511627776 by omega)];rfl
def QC{s:Sl}{l:bU}{n:Int}(g:s.n=l.length)(h:Sep E (bC s 1 (bD l)::L) w):
  Calls P Dc #[.int .i64 n,.slice s.p s.n s.c] w (bW λv w'=>v=.bool (h8 n l)/\Sep E (bC s 1 (bD l)::L) w'):=by
 apply XV;unfold Mg qF h8;refine hN (λh1=>?_) (λh1=>?_);rotate_left;·rw[c4 (show ¬ 0<=n by omega)];exact⟨by simp,h⟩
 rw[dh h1];refine hN (λc=>?_) (λc=>?_);rotate_left;·rw[c4 (show ¬ n<=1048576 by omega)];exact⟨by simp,h⟩
 rw[dh c];refine hN (λd=>?_) (λd=>?_);rotate_left;·rw[c4 (show ¬ l.length<=64 by omega)];exact⟨by simp,h⟩
 rw[dh (show l.length<=64 by omega)];refine use (K:=λv w'=>v=.bool (!(l.all λx=>decide (0<=x)&&decide (x<=top)))/\Sep E (bC s 1 (bD l)::L) w') ?_ ?_
 ·apply Yw;unfold MN qQ;refine use (Qz (q:=λx=> !(decide (0<=x)&&decide (x<=top))) ?_ g bA h) ?_
  ·intro x b _ h1;refine⟨Dy,_,rfl,by kernel_rfl,(aIP x b).mono ?_⟩;rintro e w2 ⟨v,rfl,rfl,rfl⟩;exact⟨rfl,h1⟩
  ·rintro _ b ⟨i,rfl,a,h1⟩;refine⟨i,rfl,?_,h1⟩;rcases a with⟨rfl,a⟩|⟨k,j,_,a⟩
   ·have:(l.all λx=>decide (0<=x)&&decide (x<=top))=true:=fB.2 λx hx=>by simpa using a x hx
    rw[this];rfl
   ·have hx:l[i.toNat]?=some (l[i.toNat]'bA):=dL;have f:=a _ hx;have:(l.all λx=>decide (0<=x)&&decide (x<=top))=false:=by
     rw[List.all_eq_false];exact⟨_,m7 (show i.toNat<l.length by omega),by
      have m:l[i.toNat]<0\/top<l[i.toNat]:=by simpa using f
      simp;omega⟩
    rw[this,dh (show i≥0 by omega)];rfl
 ·rintro _ b ⟨rfl,h1⟩;exact⟨_,rfl,by simp,h1⟩
end Go.Mp
namespace Go.Kc
def QD{α:Type}{r:α->α->Bool}(vm:∀x,r x x=false)(asym:∀x y,r x y=true->r y x=false):∀ {l:List α} {j:Nat} {x:α},l.Pairwise (λa b=>r a b=true)->l[j]?=some x->(l.filter λy=>r y x).length=j
 |[],j,x,_,hx=>by simp at hx
 |a::l,0,x,h,hx=>by
  have e:a=x:=by simpa using hx
  subst e;have h':=g5.1 h;have:(a::l).filter (λy=>r y a)= []:=by
   rw[List.filter_eq_nil_iff];intro y d;rcases ey.1 d with rfl|d;·rw[vm];decide
   ·rw[asym _ _ (h'.1 y d)];decide
  rw[this];rfl
 |a::l,j+1,x,h,hx=>by
  have h':=g5.1 h;have c:l[j]?=some x:=by simpa using hx
  have hm:x∈l:=eu c;rw[jq,bM (h'.1 x hm),hS,QD vm asym h'.2 c]
def rB(a b:Int×Nat):Bool:=decide (b.1<a.1)||(decide (a.1=b.1)&&decide (a.2<b.2))
def p6{a b:Int×Nat}:rB a b=true↔(b.1<a.1\/(a.1=b.1/\a.2<b.2)):=by simp[rB]
def aL8(x:Int×Nat):rB x x=false:=by
 rw[uP];intro h;have:=p6.1 h;omega
def QE(x y:Int×Nat)(h:rB x y=true):rB y x=false:=by
 rw[uP];intro h';have h1:=p6.1 h;have a:=p6.1 h';omega
def Ag{rs:bU}{p:Int×Nat}:p∈rs.zipIdx↔rs[p.2]?=some p.1:=by
 obtain⟨a,i⟩:=p;rw[List.mem_zipIdx_iff_getElem?]
variable{rs:bU}{S:List (Int×Nat)}
def QF(hp:S.Perm rs.zipIdx)(c:S.Pairwise λa b=>rB a b=true){j:Nat}{x:Int×Nat}(hx:S[j]?=some x):ahead rs x.2 x.1=j:=by
 have h1:=QD aL8 QE c hx;rw[<- h1];exact((hp.filter _).length_eq).symm
def aIz(hp:S.Perm rs.zipIdx)(f:S.Pairwise λa b=>rB a b=true){i m:Nat}{r:Int}(d:rs[i]?=some r):ahead rs i r<m↔i∈(S.take m).map (·.2):=by
 constructor
 ·intro h;have h1:(r,i)∈S:=hp.mem_iff.2 (Ag.2 d);obtain⟨j,c⟩:=pw.1 h1;have g:=QF hp f c;refine e4.2 ⟨(r,i),pw.2 ⟨j,?_⟩,rfl⟩;rw[pz,bM (by simpa[g]using h)];exact c
 ·intro h;obtain⟨⟨r',o⟩,h1,rfl⟩:=e4.1 h;obtain⟨j,c⟩:=pw.1 h1;rw[pz]at c;split at c
  ·next p=>
   have k:(r',o)∈rs.zipIdx:=hp.mem_iff.1 (eu c);have e:=Ag.1 k;simp only at e d;have l:=d.symm.trans e;have n:r=r':=by simpa using l
   subst n;have:=QF hp f c;simp only at this ⊢;omega
  ·cases c
def QG:(rs.zipIdx.map (·.2)).Nodup:=by
 rw[List.zipIdx_map_snd];exact List.nodup_range'
def QH(hp:S.Perm rs.zipIdx)(m:Nat):((S.take m).map (·.2)).Nodup:=by
 have h:(S.map (·.2)).Nodup:=(hp.map _).nodup_iff.2 QG;rw[List.map_take];exact h.sublist (oI _ _)
def aLt(hp:S.Perm rs.zipIdx){m:Nat}:∀i∈(S.take m).map (·.2),i<rs.length:=by
 intro i a;obtain⟨⟨r,i⟩,h1,rfl⟩:=e4.1 a;have:=Ag.1 (hp.mem_iff.1 (mx h1));exact(cT.1 this).1
def aHX(rs:bU):∃S:List (Int×Nat),S.Perm rs.zipIdx/\S.Pairwise λa b=>rB a b=true:=by
 refine⟨rs.zipIdx.mergeSort (λa b=> !rB b a),AY _ _,?_⟩;have h1:(rs.zipIdx.mergeSort (λa b=> !rB b a)).Pairwise (λa b=>(!rB b a)=true):=by
  apply List.pairwise_mergeSort
  ·intro a b c e f;rw[hR]at*
   rw[uP]at*
   intro h;apply e;rw[p6]at*
   by_cases l:b.1<c.1\/(c.1=b.1/\c.2<b.2);·exact absurd (by rw[p6];omega) f
   ·omega
  ·intro a b;rw[jr,hR,hR];rcases i:rB b a with _|_;·exact .inl rfl
   ·exact .inr (QE _ _ i)
 have g:(rs.zipIdx.mergeSort (λa b=> !rB b a)).Pairwise (λa b=>a.2≠b.2):=by
  have:=((AY rs.zipIdx (λa b=> !rB b a)).map (·.2)).nodup_iff.2 QG;exact jK.1 this
 refine(h1.and g).imp ?_;rintro a b ⟨d,j⟩;rw[hR,uP]at d;rw[p6];have k:¬ (a.1<b.1\/(b.1=a.1/\b.2<a.2)):=λh=>d (p6.2 h);omega
def jD:bU->List Nat->bU
 |out,[]=>out
 |out,a::r=>jD (out.set a (out.getD a 0+1)) r
def ug:∀(b:List Nat) (out:bU),(jD out b).length=out.length
 |[],_=>rfl
 |a::r,out=>by rw[jD,ug r];simp
def EV:∀(c:List Nat) (out:bU) (a:Nat),jD out (c++[a])=(jD out c).set a ((jD out c).getD a 0+1)
 |[],out,a=>rfl
 |b::r,out,a=>by rw[oJ,jD,jD,EV r]
def uh:∀(b:List Nat) (out:bU) (i:Nat) (x:Int),b.Nodup->out[i]?=some x->(jD out b)[i]?=some (x+if i∈b then 1 else 0)
 |[],out,i,x,_,hx=>by simp[jD,hx]
 |a::r,out,i,x,f,hx=>by
  have c:=pD.1 f;have d:i<out.length:=(cT.1 hx).1;rw[jD];by_cases e:a=i
  ·subst e;have h1:(out.set a (out.getD a 0+1))[a]?=some (x+1):=by
    rw[iM d,dK,hx];rfl
   rw[uh r _ _ _ c.2 h1,bJ c.1,bM (by simp)];simp
  ·have h1:(out.set a (out.getD a 0+1))[i]?=some x:=by rw[h4 e];exact hx
   rw[uh r _ _ _ c.2 h1];have:(i∈a::r)↔i∈r:=by rw[ey];exact⟨λh=>h.resolve_left (λh=>e h.symm),.inr⟩
   simp only[this]
def mc(x:Int)(l:bU):cn (x::l)=x+cn l:=by
 have h:∀(l:bU) (a b:Int),l.foldl (· + ·) (a+b)=a+l.foldl (· + ·) b:=by
  intro l;induction l with
  |nil=>intro a b;rfl
  |cons y l c=>intro a b;rw[G9,G9,Hk,c]
 unfold cn;rw[G9,Int.add_comm,h]
def r1:cn []=0:=rfl
def QI:∀ {l:bU} {i:Nat},i<l.length->cn (l.set i (l.getD i 0+1))=cn l+1
 |x::l,0,_=>by simp[mc];omega
 |x::l,i+1,h=>by
  have:=QI (l:=l) (i:=i) (by simpa using h);simp only[T4,List.getD_cons_succ,mc,this];omega
def QJ:∀(b:List Nat) (out:bU),(∀i∈b,i<out.length)->cn (jD out b)=cn out+b.length
 |[],out,_=>by simp[jD]
 |a::r,out,h=>by
  rw[jD,QJ r _ (by intro i c;simpa using h i (fI _ c)),QI (h a (by simp))];simp;omega
end Go.Kc
namespace Go.Kc
def hz(n:Int)(ws:bU):bU:=ws.map λw=>n*w/cn ws
def gp(n:Int)(ws:bU):bU:=ws.map λw=>n*w%cn ws
def iL(n:Int)(ws:bU):Int:=n-cn (hz n ws)
def QK{n:Int}{ws:bU}(b:h8 n ws=true)(a:cn ws≠0):
  iI n ws=ws.zipIdx.map λp:Int×Nat=>n*p.1/cn ws+if(ahead (gp n ws) p.2 (n*p.1%cn ws):Int)<iL n ws then 1 else 0:=by
 unfold iI;rw[bJ (by rw[b];decide),bJ a];rfl
def EW:∀(a b:bU),cn (a++b)=cn a+cn b
 |[],b=>by simp[r1]
 |x::a,b=>by rw[oJ,mc,mc,EW a b];omega
def QL(n:Int):∀ws:bU,cn (ws.map (n* ·))=n*cn ws
 |[]=>by simp[r1]
 |w::ws=>by rw[mC,mc,mc,QL n ws,Int.mul_add]
def QM(m:Int)(f:Int->Int):∀ws:bU,cn (ws.map f)=m*cn (ws.map λw=>f w/m)+cn (ws.map λw=>f w%m)
 |[]=>by simp[r1]
 |w::ws=>by
  rw[mC,mC,mC,mc,mc,mc,QM m f ws,Int.mul_add];have:=Int.mul_ediv_add_emod (f w) m;omega
def ov:∀ {l:bU},(∀x∈l,0<=x)->0<=cn l
 |[],_=>by simp[r1]
 |x::l,h=>by
  rw[mc];have:=h x (by simp);have:=ov (l:=l) (λy a=>h y (fI _ a));omega
def QN{m:Int}:∀ {l:bU},(∀x∈l,0<=x/\x<=m)->cn l<=m*(l.countP λx=>decide (0<x))
 |[],_=>by simp[r1]
 |x::l,h=>by
  rw[mc,G6];have h1:=h x (by simp);have b:=QN (l:=l) (λy a=>h y (fI _ a));by_cases hx:0<x;·rw[bM (by simpa using hx),pF,Int.mul_add];omega
  ·rw[bJ (by simpa using hx)];simp;omega
def aJB{l:bU}(h:∀x∈l,0<=x){x:Int}(hx:x∈l):x<=cn l:=by
 induction l with
 |nil=>cases hx
 |cons y l b=>
  rw[mc];have h1:=h y (by simp);have c:=ov (l:=l) (λz a=>h z (fI _ a));rcases ey.1 hx with rfl|hx;·omega
  ·have:=b (λz a=>h z (fI _ a)) hx;omega
def ui{n:Int}{ws:bU}(h:h8 n ws=true):(0<=n/\n<=1048576)/\ws.length<=64/\∀w∈ws,0<=w/\w<=top:=by
 simpa[h8,and_assoc]using h
variable{n:Int}{ws:bU}
def aJd:cn ws*iL n ws=cn (gp n ws):=by
 have h:=QM (cn ws) (n* ·) ws;rw[QL]at h;unfold iL hz gp;rw[Int.mul_sub,Int.mul_comm _ n];omega
def EX(a:0<cn ws):∀x∈gp n ws,0<=x/\x<cn ws:=by
 intro x hx;obtain⟨w,_,rfl⟩:=e4.1 hx;exact⟨Hf _ bA,Int.emod_lt_of_pos _ a⟩
def uj(a:0<cn ws):0<=iL n ws/\iL n ws<=(gp n ws).countP (λx=>decide (0<x)):=by
 have h1:=aJd (n:=n) (ws:=ws);have b:=ov (l:=gp n ws) (λx hx=>(EX a x hx).1);have c:=QN (m:=cn ws) (l:=gp n ws) (λx hx=>⟨(EX a x hx).1,Int.le_of_lt (EX a x hx).2⟩);rw[<- h1]at b c;exact⟨Int.nonneg_of_mul_nonneg_right b a,Int.le_of_mul_le_mul_left c a⟩
def QO(a:0<cn ws):iL n ws<=ws.length:=by
 have h1:=(uj (n:=n) a).2;have b:=TW (p:=λx=>decide (0<x)) (l:=gp n ws);have c:(gp n ws).length=ws.length:=by simp[gp]
 omega
def aGx(a:0<cn ws){i:Nat}{r:Int}(f:(gp n ws)[i]?=some r)(c:(ahead (gp n ws) i r:Int)<iL n ws):0<r:=by
 refine AV λd=>?_;have h1:=(uj (n:=n) a).2;have b:((gp n ws).countP λx=>decide (0<x))<=ahead (gp n ws) i r:=by
  have e:(gp n ws).countP (λx=>decide (0<x))=(gp n ws).zipIdx.countP (λp=>decide (0<p.1)):=by
   conv=>lhs;rw[<- List.zipIdx_map_fst 0 (gp n ws)]
   rw[List.countP_map];rfl
  unfold ahead;rw[e,<- List.countP_eq_length_filter];refine List.countP_mono_left λp _ hp=>?_;have:0<p.1:=by simpa using hp
  rw[jr];exact .inl (by simp;omega)
 omega
def QP(b:h8 n ws=true)(a:cn ws≠0){i:Nat}{w:Int}(hw:ws[i]?=some w):(iI n ws)[i]?=some (n*w/cn ws+if(ahead (gp n ws) i (n*w%cn ws):Int)<iL n ws then 1 else 0):=by
 rw[QK b a,ew,List.getElem?_zipIdx,hw];simp
def p7(b:h8 n ws=true):(iI n ws).length=ws.length:=by
 by_cases a:cn ws=0;·unfold iI;rw[bJ (by rw[b];decide),bM a];simp
 ·rw[QK b a];simp
def QQ(c:h8 n ws=true)(d:0<cn ws){S:List (Int×Nat)}(hp:S.Perm (gp n ws).zipIdx)(h:S.Pairwise λa b=>rB a b=true):
  iI n ws=jD (hz n ws) ((S.take (iL n ws).toNat).map (·.2)):=by
 apply g6;intro i;cases hw:ws[i]? with
 |none=>
  have:ws.length<=i:=GJ.1 hw;rw[fH (by rw[p7 c];exact this),fH (by rw[ug];simpa[hz]using this)]
 |some w=>
  have h1:(hz n ws)[i]?=some (n*w/cn ws):=by simp[hz,hw]
  have e:(gp n ws)[i]?=some (n*w%cn ws):=by simp[gp,hw]
  rw[QP c bA hw,uh _ _ _ _ (QH hp _) h1];have f:=aIz hp h (m:=(iL n ws).toNat) e;have j:=(uj (n:=n) d).1;have g:(ahead (gp n ws) i (n*w%cn ws):Int)<iL n ws↔i∈(S.take (iL n ws).toNat).map (·.2):=by rw[<- f];omega
  simp only[g]
def aF3(d:h8 n ws=true)(a:0<cn ws):cn (iI n ws)=n:=by
 obtain⟨S,hp,e⟩:=aHX (gp n ws);rw[QQ d a hp e,QJ _ _ (λi c=>by simpa[hz,gp]using aLt hp i c)];have h1:=QO (n:=n) a;have f:=(uj (n:=n) a).1;have b:S.length=ws.length:=by rw[hp.length_eq];simp[gp]
 rw[eb,g7,b];have:iL n ws=n-cn (hz n ws):=rfl;omega
def EY(h:h8 n ws=true)(c:0<cn ws){i:Nat}{w:Int}(hw:ws[i]?=some w):∃x,(iI n ws)[i]?=some x/\0<=x/\(n<=cn ws->x<=w)/\(cn ws<=n->w<=x):=by
 obtain⟨⟨g,q⟩,v,f⟩:=ui h;have a:=f w (eu hw);have j:(gp n ws)[i]?=some (n*w%cn ws):=by simp[gp,hw]
 refine⟨_,QP h bA hw,?_⟩;have k:=Int.mul_ediv_add_emod (n*w) (cn ws);have r:=Hf (n*w) (b:=cn ws) bA;have l:=aGx (n:=n) c j;have s:0<=n*w/cn ws:=A6 (A7 g a.1) bA;refine⟨?_,λhle=>?_,λhle=>?_⟩;·split<;>omega
 ·have d:n*w<=cn ws*w:=GH hle a.1;have m:n*w/cn ws<=w:=Int.ediv_le_of_le_mul c (by rw[Int.mul_comm w];exact d);split
  ·next o=>
   have t:=l o;have p:n*w/cn ws<w:=by
    refine AV λu=>?_;have e:n*w/cn ws=w:=by omega
    rw[e]at k;omega
   omega
  ·omega
 ·have d:cn ws*w<=n*w:=GH hle a.1;have m:w<=n*w/cn ws:=(Int.le_ediv_iff_mul_le c).2 (by rw[Int.mul_comm w];exact d);split<;>omega
end Go.Kc
namespace Go.Mp
open Go Go.Vc Go.Sp Go.Proofs Go.Kc Go.Mp.Sh
variable{E:Env}{L:ch}{w:World}
def QR(x:Int)(w:World):Calls P DH #[.int .u64 x] w (bW λv w'=>v=.bool false/\w'=w):=by
 apply YW;exact⟨by simp,rfl⟩
def aFv(x y:Int)(w:World):Calls P J0 #[.int .u64 x,.int .u64 y] w (bW λv w'=>∃r:Int,v=Iv r/\decide (r<0)=decide (x<y)/\w'=w):=by
 apply Yz;unfold MQ qF;refine use (QR x w) ?_;rintro _ _ ⟨rfl,rfl⟩;refine⟨_,rfl,use (QR y _) ?_⟩;rintro _ _ ⟨rfl,rfl⟩;refine⟨_,rfl,dH (dH (cL (λh=>⟨-1,rfl,by simp[h],rfl⟩) (λh=>eW (λa=>⟨1,rfl,?_,rfl⟩) (λa=>⟨0,rfl,?_,rfl⟩))))⟩;·rw[c4 (show ¬ x<y by omega)];rfl
 ·rw[c4 (show ¬ x<y by omega)];rfl
def wu(a b:cR):Prop:=b.low<a.low\/(a.low=b.low/\a.at_<b.at_)
def Ah(a b:cR):Bool:=decide (b.low<a.low)
def aLs:Sh.k4 wu (λa b=>a.at_<b.at_) Ah:=by
 refine⟨⟨λx y z h1 f=>?_,λx h=>?_,λx y h=>?_⟩,λx y h e=>?_,λx y h=>?_⟩;·unfold wu at *;omega
 ·unfold wu at h;omega
 ·unfold wu;obtain⟨a,b⟩:=x;obtain⟨c,d⟩:=y;have:¬ (a=c/\b=d):=λ⟨h1,f⟩=>h (by rw[h1,f]);simp only;omega
 ·rw[e]at h;exact absurd h (Hl _)
 ·unfold Ah wu;have h:x.at_<y.at_:=h;rw[decide_eq_true_iff];omega
def uk(p:Int×Nat):cR:=⟨p.2,p.1⟩
def p8(x:cR):Int×Nat:=(x.low,x.at_.toNat)
def QS(p:Int×Nat):p8 (uk p)=p:=by simp[p8,uk]
def aII(x y:cR)(h:Sep E L w):Calls P Dz #[.agg #[Iv x.at_,.int .u64 x.low],.agg #[Iv y.at_,.int .u64 y.low]] w (bW λv w'=>∃r:Int,v=Iv r/\decide (r<0)=Ah x y/\Sep E L w'):=by
 apply Yy;unfold MP qQ;refine Al.i h (λc e h1=>Al.i h1 (λd w2 a=>?_));have a:Sep E (bE d [Iv y.at_,.int .u64 y.low]::bE c [Iv x.at_,.int .u64 x.low]::L) w2:=a;refine ld a 0 rfl rfl rfl (ld a 1 rfl rfl rfl (use (aFv _ _ w2) ?_));rintro _ f ⟨r,rfl,b,rfl⟩;exact⟨r,rfl,r,rfl,b,a.tail.tail⟩
def aFQ(n:Nat)(l:bU)(a:l.length=n):l.map (λ_=>(0:Int))=List.replicate n 0:=by
 rw[<- a];simp[List.map_const']
def QT:g9 P yj=some (16,2,[Iv 0,.int .u64 0]):=by kernel_rfl
def aHJ{s:Sl}{q:Nat}{l:List cR}{x:cR}(b:s.n=l.length)(j:l.length<100000000)(h:Sep E (bE q x.vs::bC s 2 (bQ cR.vs l)::L) w){G:Sl->bh6}(g:∀s' a,s'.n=l.length+1->Sep E (bC s' 2 (bQ cR.vs (l++[x]))::L) a->G s' a):
  ∃e:Sl,∃a,Sem.run P (Builtin.append_ #[yj,yj] yj #[Sv s,.slice (some ⟨q,0,none⟩) 1 1]) w=.ok (Sv e) a/\G e a:=by
 have f:=Src.bE (n:=1) (c:=1) h (i:=0) rfl QT rfl (λu hu=>by simp[cR.vs]at hu;rcases hu with rfl|rfl<;>rfl);refine bC.append h.swap QT rfl f bA (by rw[b];omega) (λs' a d h1=>?_);refine g s' a (by rw[d,b]) ?_;rw[mX,o4];exact(h1.fr 0 rfl).ro 2 [0] rfl
def aKr{s:Sl}{l:bU}{n:Int}(ak:s.n=l.length)(h:Sep E (bC s 1 (bD l)::L) w)(bk:l.length<1000000):
  Calls P yN #[Iv n,Sv s] w (bW λv w'=>∃e:Sl,v=Sv e/\e.n=(iI n l).length/\Sep E (bC e 1 (bD (iI n l))::bC s 1 (bD l)::L) w'):=by
 apply XX;unfold Mi qD qE qF qL qO qQ qU qW zM zN zT;dsimp only;refine use (QC ak h) ?_;rintro _ bu ⟨rfl,h1⟩;refine⟨_,rfl,?_⟩;cases U:h8 n l with
 |false=>
  have e:iI n l= []:=by unfold iI;rw[bM U]
  rw[e];exact bT rfl ⟨⟨none,0,0⟩,rfl,rfl,bC.none_ h1⟩
 |true=>
  refine bF rfl ?_;obtain⟨⟨ap,bn⟩,a8,c⟩:=ui U;refine pb (n:=s.n) bA h1 (λJ w2 B aw=>?_);rw[ak]at B aw;refine use (EU (Ints.at_ (q:=1) rfl ak) c a8 aw) ?_;rintro _ bv ⟨rfl,ai⟩;refine⟨_,rfl,eD (λa1=>?_) (λbo=>?_)⟩
  ·have e:iI n l=List.replicate l.length 0:=by unfold iI;rw[bJ (by rw[U];decide),bM a1];exact aFQ _ _ rfl
   rw[e];exact⟨J,rfl,by simpa using B,ai⟩
  have ab:0<cn l:=by have:=ov (l:=l) (λx hx=>(c x hx).1);omega
  have bg:cn l<=64*1099511627776:=by
   have:=(ET c l.length (dN _)).2;rw[fN]at this;omega
  have O:(hz n l).length=l.length:=by simp[hz]
  have ah:(gp n l).length=l.length:=by simp[gp]
  let m:Nat->List cR:=λk=>((gp n l).zipIdx.take k).map uk;have d:∀k,k<=l.length->(m k).length=k:=λk g=>by simp[m,ah,g]
  refine⟨λrs left i w'=>∃k:Nat,i=k/\k<=l.length/\left=n-cn ((hz n l).take k)/\rs.n=k/\Sep E (bC rs 2 (bQ cR.vs (m k))::bC J 1 (bD ((hz n l).take k++List.replicate (l.length-k) 0))::bC s 1 (bD l)::L) w',
   λ_ _ i _=>(l.length-i).toNat,⟨0,rfl,ec _,by simp[r1],rfl,bC.none_ (by simpa using ai)⟩,?_⟩
  rintro _ rs _ _ aV ⟨k,rfl,g,rfl,aq,V⟩;obtain⟨M,u⟩:∃f:Nat->bU,f= λk=>(hz n l).take k++List.replicate (l.length-k) 0:=⟨_,rfl⟩
  have V:Sep E (bC rs 2 (bQ cR.vs (m k))::bC J 1 (bD (M k))::bC s 1 (bD l)::L) aV:=by rw[u];exact V
  have aa:∀k,k<=l.length->(M k).length=l.length:=λk g=>by simp[u,O];omega
  refine cL (λbm=>?_) (λaN=>?_)
  ·have ae:k<l.length:=by omega
   obtain⟨x,hx⟩:∃x,l[k]?=some x:=⟨_,dD ae⟩
   have aT:=c x (eu hx);rw[ou]at aT;refine(Ints.at_ (q:=2) rfl ak).el V k rfl hx ?_;obtain⟨N,rfl⟩:∃N:Nat,n=N:=⟨n.toNat,bA⟩
   obtain⟨X,rfl⟩:∃X:Nat,x=X:=⟨x.toNat,bA⟩
   obtain⟨T,ay⟩:∃T:Nat,cn l=T:=⟨(cn l).toNat,bA⟩
   have bf:N*X<=1048576*1099511627776:=Hh bA bA;rw[dj (n:=N) bA,dj (n:=X) bA,ay,dj (n:=T) bA];refine use (aIF bA bA bA aV) ?_;rintro _ _ ⟨rfl,rfl⟩;refine⟨_,_,rfl,use (Qg bA bA V) ?_⟩;rintro _ aW ⟨rfl,C⟩;refine⟨_,_,rfl,?_⟩;have bp:N*X/T<=N*X:=Hd _ _;have H:(hz N l)[k]?=some ((N*X/T:Nat):Int):=by simp[hz,hx,ay]
   have al:(gp N l)[k]?=some ((N*X%T:Nat):Int):=by simp[gp,hx,ay]
   generalize N*X/T=Q at*
   generalize N*X%T=R at*
   rw[cH (n:=((Q:Nat):Int)) bA bA];refine iY (C.fr 1 rfl) (by rw[aa k g];exact B) bA (by rw[aa k g];omega) (λam o=>?_);have av:(M k).set ((k:Nat):Int).toNat ((Q:Nat):Int)=M (k+1):=by
    rw[dk,u];simp only;rw[fw H,ik k _ (by simp;omega),dc];congr 1;rw[g7,O,pE g,hG,show l.length-k=(l.length-(k+1))+1 by omega,nV];rfl
   rw[av]at o;have o:Sep E (bC J 1 (bD (M (k+1)))::bC rs 2 (bQ cR.vs (m k))::bC s 1 (bD l)::L) am:=o;have aH:(M (k+1))[k]?=some ((Q:Nat):Int):=by
    rw[u];simp only;rw[eE (by simp;omega),pz,eG];exact H
   refine(Ints.at_ (q:=0) rfl (by rw[aa _ ae];exact B)).el o k rfl aH ?_;refine Al.i o (λp aX D=>?_);have D:Sep E (bE p (cR.vs ⟨k,((R:Nat):Int)⟩)::bC rs 2 (bQ cR.vs (m k))::bC J 1 (bD (M (k+1)))::bC s 1 (bD l)::L) aX:=D.ro 3 [0,2,1] rfl;refine aHJ (by rw[d k g];exact aq) (by rw[d k g];omega) D (λs' aY aP G=>?_);have a2:m k++[⟨k,((R:Nat):Int)⟩]=m (k+1):=by
    have:((gp N l).zipIdx)[k]?=some (((R:Nat):Int),k):=by rw[List.getElem?_zipIdx,al];simp
    simp only[m];rw[fw this,jV];rfl
   rw[a2]at G;have bc:=Af H;have bh:0<=cn ((hz (N:Int) l).take k):=ov λy t=>by
    obtain⟨z,aD,rfl⟩:=e4.1 (mx t);exact A6 (A7 bA (c z aD).1) bA
   have bi:cn ((hz (N:Int) l).take (k+1))<=cn (hz (N:Int) l):=by
    conv=>rhs;rw[<- fA (k+1) (hz (N:Int) l)]
    have:0<=cn ((hz (N:Int) l).drop (k+1)):=ov λy t=>by
     obtain⟨z,aD,rfl⟩:=e4.1 (uL t);exact A6 (A7 bA (c z aD).1) bA
    rw[EW];omega
   have ao:=(uj (n:=(N:Int)) ab).1;have a9:iL (N:Int) l=N-cn (hz (N:Int) l):=rfl;rw[c1,cH bA bA];refine⟨⟨k+1,rfl,ae,bA,by rw[aP,d k g],by rw[u]at G;exact G⟩,?_⟩;show(((l.length:Nat):Int)-((k+1:Nat):Int)).toNat<(((l.length:Nat):Int)-(k:Int)).toNat;omega
  ·have:k=l.length:=by omega
   clear aN;have ag:m k=(gp n l).zipIdx.map uk:=by simp only[m];rw[hE (by simp[ah];omega)]
   have aB:n-cn ((hz n l).take k)=iL n l:=by rw[this,<- O,fN];rfl
   have aG:M k=hz n l:=by
    rw[u,this];simp only;rw[hG,<- O,fN];simp
   rw[aB];rw[aG]at V;have a4:(m k).Pairwise (λa b=>a.at_<b.at_):=by
    rw[ag,jK];have C:((gp n l).zipIdx.map (·.2)).Pairwise (· < ·):=by rw[List.zipIdx_map_snd];exact List.pairwise_lt_range'
    exact(jK.1 C).imp (λ{a b} h=>by show(a.2:Int)<(b.2:Int);omega)
   refine use (Sh.ES aLs a4 (by rw[d k g];exact aq) (by rw[d k g];omega) ?_ V) ?_
   ·intro bt x y aW _ C;exact⟨Dz,_,rfl,by kernel_rfl,use (K:=λv w'=>∃r:Int,v=Iv r/\decide (r<0)=Ah x y/\Sep E _ w') (aII x y C) (λv w' ⟨r,bd,U,bb⟩=>⟨r,by rw[bd],U,bb⟩)⟩
   rintro _ aW ⟨rfl,l',I,aC,C⟩;have aA:l'.length=l.length:=by rw[I.length_eq,d k g,this]
   have af:∀x∈l',0<=x.at_/\uk (p8 x)=x:=by
    intro x hx;have:=I.mem_iff.1 hx;rw[ag]at this;obtain⟨p,_,rfl⟩:=e4.1 this;exact⟨by show(0:Int)<=(p.2:Int);omega,by rw[QS]⟩
   obtain⟨S,W⟩:∃S,S=l'.map p8:=⟨_,rfl⟩
   have ad:S.Perm (gp n l).zipIdx:=by
    have:=I.map p8;rw[ag,rh,show p8 ∘ uk=id from funext QS,List.map_id]at this;rw[W];exact this
   have aI:S.Pairwise λa b=>rB a b=true:=by
    rw[W,jK];refine GK (λ{a b} aj az aJ=>?_) aC;have h1:=(af a aj).1;have aw:=(af b az).1;rw[p6];show b.low<a.low\/(a.low=b.low/\a.at_.toNat<b.at_.toNat);rcases aJ with h|⟨ai,V⟩
    ·exact .inl h
    ·exact .inr ⟨ai,bA⟩
   have aQ:=QQ U ab ad aI;have ao:=uj (n:=n) ab;have bl:=QO (n:=n) ab;have a5:=bC.cap C;refine⟨rfl,⟨ao.1,bA⟩,?_⟩;obtain⟨A,Y⟩:∃A:Nat->bU,A= λj=>jD (hz n l) ((S.take j).map (·.2)):=⟨_,rfl⟩
   have Z:∀j,(A j).length=l.length:=λj=>by rw[Y];simp only[ug,O]
   have aE:A 0=hz n l:=by rw[Y];rfl
   have aF:∀j (i:Nat),i<l.length->0<=(A j).getD i 0/\(A j).getD i 0<=1048577:=by
    intro j i a7;obtain⟨x,hx⟩:∃x,l[i]?=some x:=⟨_,dD a7⟩
    have aR:=c x (eu hx);have aS:=aJB (λy t=>(c y t).1) (eu hx);have az:(hz n l)[i]?=some (n*x/cn l):=by simp[hz,hx]
    have:=uh _ _ _ _ (QH ad j) az;rw[Y,dK];simp only;rw[this];have G:0<=n*x/cn l:=A6 (A7 ap aR.1) bA;have ax:n*x/cn l<=n:=Int.ediv_le_of_le_mul ab (bf5 aS ap);simp only[mB];split<;>omega
   rw[<- aE]at C;refine⟨λx w'=>∃j:Nat,x=j/\j<=(iL n l).toNat/\Sep E (bC rs 2 (bQ cR.vs l')::bC J 1 (bD (A j))::bC s 1 (bD l)::L) w',λx _=>(iL n l-x).toNat,⟨0,rfl,ec _,C⟩,?_⟩;rintro _ x am ⟨j,rfl,bs,o⟩;refine cL (λba=>?_) (λa6=>?_)
   ·have aO:j<l'.length:=by omega
    obtain⟨y,t⟩:∃y,l'[j]?=some y:=⟨_,dD aO⟩
    have au:=(af y (eu t)).1;have aU:y.at_.toNat<l.length:=by
     have D:S[j]?=some (p8 y):=by rw[W,ew,t];rfl
     have G:=Ag.1 (ad.mem_iff.1 (eu D));have:=(cT.1 G).1;rw[ah]at this;exact this
    have aM:∀ {F:Addr->Prop},(∀a,am.cell? (a.add 0)=some (Iv y.at_)->am.cell? (a.add 1)=some (.int .u64 y.low)->F a)->cx (gb rs.p 0 rs.c 2) ((iL n l).toNat-0) (j:Int) 2 F:=by
     intro F be;obtain⟨b,spare,hp,_⟩:=bC.h2 o bA;have a3:gb rs.p 0 rs.c 2=some ⟨b,0,none⟩:=by unfold gb;rw[hp];split<;>rfl
     rw[a3];obtain⟨a,aj,U,hf⟩:=kZ (F:=F) (k:=j) cR.kD 0 o rfl (by rw[aA];omega) (i:=(j:Int)) rfl t (λb _ aK=>be _ (by rw[cj];exact aK 0 _ rfl) (by rw[cj];exact aK 1 _ rfl));rw[hp]at aj;have:=cQ aj;subst this;exact⟨_,rfl,⟨bA,bA⟩,hf⟩
    refine aM (λa aZ a0=>⟨_,aZ,_,a0,Al.i o (λp aX D=>eh _ D rfl (λaY G=>?_))⟩);refine ld G 0 rfl rfl rfl ?_;have ax:Sep E (bC J 1 (bD (A j))::bC rs 2 (bQ cR.vs l')::bC s 1 (bD l)::L) aY:=G.tail.fr 1 rfl;have ar:J.n=(A j).length:=by rw[Z];exact B
    refine kY 0 ax rfl ar au (by rw[Z];omega) (λbr aL=>⟨_,aL,?_⟩);have bj:=aF j y.at_.toNat aU;rw[cH bA bA];refine iY ax ar au (by rw[Z];omega) (λbq an=>?_);have e:(A j).set y.at_.toNat ((A j).getD y.at_.toNat 0+1)=A (j+1):=by
     rw[Y];simp only;have D:S[j]?=some (p8 y):=by rw[W,ew,t];rfl
     rw[fw D,jV,mC,Bb,EV];rfl
    rw[e]at an;rw[c1];refine⟨⟨j+1,rfl,bA,an.swap⟩,?_⟩;show(iL n l-((j+1:Nat):Int)).toNat<(iL n l-(j:Int)).toNat;omega
   ·have:j=(iL n l).toNat:=by omega
    subst this;have e:A (iL n l).toNat=iI n l:=by rw[aQ,Y]
    rw[e]at o;exact⟨J,rfl,by rw[B,p7 U],o.tail⟩
end Go.Mp
namespace Go.Kc
def ie(n:Int)(l:bU):bU:=List.zipWith min (iI n l) l
variable{n:Int}{l:bU}
def EZ(a:h8 n l=true):(ie n l).length=l.length:=by
 simp[ie,p7 a]
def r2(a:h8 n l=true)(b:0<cn l){i:Nat}{x:Int}(hx:l[i]?=some x):∃p,(iI n l)[i]?=some p/\(ie n l)[i]?=some (min p x)/\0<=min p x/\min p x<=x:=by
 obtain⟨p,hp,h1,c,d⟩:=EY a b hx;have e:=(ui a).2.2 x (eu hx);refine⟨p,hp,by simp[ie,GO,hp,hx],bA,bA⟩
def E0(b:h8 n l=true)(c:0<cn l)(h:0<n):ie n l=iR n l:=by
 unfold iR;rw[bJ (by rw[b];decide),cM];by_cases hle:cn l<=n
 ·rw[bM hle];apply g6;intro i;cases hx:l[i]? with
  |none=>
   have:=GJ.1 hx;exact fH (by rw[EZ b];exact this)
  |some x=>
   obtain⟨p,hp,h1,e,f⟩:=EY b c hx;obtain⟨g,a,d,_,_⟩:=r2 b c hx;rw[hp]at a;cases a;rw[d,Int.min_eq_right (f hle)]
 ·rw[bJ hle];apply g6;intro i;cases hx:l[i]? with
  |none=>
   have:=GJ.1 hx;rw[fH (by rw[EZ b];exact this),fH (by rw[p7 b];exact this)]
  |some x=>
   obtain⟨p,hp,h1,e,f⟩:=EY b c hx;obtain⟨g,a,d,_,_⟩:=r2 b c hx;rw[hp]at a;cases a;rw[d,hp,Int.min_eq_left (e bA)]
def aH0(b:h8 n l=true)(a:0<cn l)(c:0<n):0<cn (ie n l)/\cn (ie n l)<=n/\(cn (ie n l)=n\/ie n l=l):=by
 have e:=E0 b a c;rw[e];unfold iR;rw[bJ (by rw[b];decide),cM];by_cases hle:cn l<=n;·rw[bM hle];exact⟨a,hle,.inr rfl⟩
 ·rw[bJ hle,aF3 b a];exact⟨c,e7 _,.inl rfl⟩
def E1(a:h8 n l=true)(h:n<=0\/cn l=0):iR n l=List.replicate l.length 0:=by
 have h1:=(ui a).1.1;unfold iR;rw[bJ (by rw[a];decide),eG];simp[List.map_const']
end Go.Kc
namespace Go.Mp
open Go Go.Vc Go.Sp Go.Proofs Go.Kc Go.Mp.Sh
variable{E:Env}{L:ch}{w:World}
def pc(n:Int)(c h:Sl)(K:bh7)(w:World):Prop:=
  ∃(i:Int->bh6) (l:Int->World->Nat),i n w/\∀C:Nat->Value,∀n14:Int,∀f:World,i n14 f->∃k:bh6,(bif(decide (n14
   >0))then(Calls P vD #[(Sv c)] f λz p=>∃s:Int,z=.returned (Iv s)/\bif(decide (s>0))then(k p)else
   (K (Sv h) p))else(K (Sv h) f))/\(∀D:Nat->Value,∀o:World,k o->Calls P yN #[(Iv n14),
   (Sv c)] o λA B=>∃g:Sl,A=.returned (Sv g)/\∃(j:Int->Int->bh6) (m:Int->Int->World->Nat),
   j n14 0 B/\∀E:Nat->Value,∀n28:Int,∀a:Int,∀b:World,j n28 a b->bif(decide (a<((g.n:Nat):Int)))then(cx g.p g.n a 1
   λv=>∃d:Int,b.cell? v=some (Iv d)/\cx c.p c.n a 1 λa32=>∃e:Int,b.cell? a32=some (Iv e)/\cx h.p h.n a 1
   λx=>∃t:Int,b.cell? x=some (Iv t)/\cx h.p h.n a 1 λa36=>St a36 (Iv (i64.wrap (t+(min1 d e)))) (λq=>
   cx c.p c.n a 1 λy=>∃u:Int,q.cell? y=some (Iv u)/\cx c.p c.n a 1 λa40=>St a40 (Iv (i64.wrap (u-(min1 d
   e)))) (λr=>(j (i64.wrap (n28-(min1 d e))) (i64.wrap (a+1)) r/\m (i64.wrap (n28-(min1 d e))) (i64.wrap
   (a+1)) r<m n28 a b)) q) b)else((i n28 b/\l n28 b<l n14 f)))
def QU{n:Int}{l:bU}{u j:Sl}{K:bh7}{M:ch}(g:h8 n l=true)(B:u.n=l.length)(W:j.n=l.length)(h:Sep E (bC u 1 (bD l)::bC j 1 (bD (List.replicate l.length 0))::M) w)(S:∀w',Sep E (bC j 1 (bD (iR n l))::M) w'->K (Sv j) w'):pc n u j K w:=by
 unfold pc;obtain⟨⟨ax,ay⟩,am,z⟩:=ui g;let k9:Int->bh6:=λn' w'=>∃r:bU,(n'<=0\/cn r=0)/\r.length=l.length/\(∀x∈r,0<=x/\x<=top)/\Sep E (bC u 1 (bD r)::bC j 1 (bD (iR n l))::M) w';refine⟨λn' w'=>(n'=n/\Sep E (bC u 1 (bD l)::bC j 1 (bD (List.replicate l.length 0))::M) w')\/k9 n' w',λn' _=>n'.toNat,.inl ⟨rfl,h⟩,?_⟩;rintro _ n' aI (⟨rfl,h1⟩|⟨r,T,az,ak,h1⟩);rotate_left
 ·refine⟨λ_=>False,eW (λV=>?_) (λhle=>S _ h1.tail),λ_ _ hf=>hf.elim⟩;refine use (EU (Ints.at_ (q:=0) rfl bA) ak bA h1) ?_;rintro _ w2 ⟨rfl,H⟩;exact⟨_,rfl,eW (λP=>bA) (λ_=>S _ H.tail)⟩
 refine⟨λw'=>0<n'/\0<cn l/\Sep E (bC u 1 (bD l)::bC j 1 (bD (List.replicate l.length 0))::M) w',eW (λV=>?_) (λhle=>S _ ?_),?_⟩
 ·refine use (EU (Ints.at_ (q:=0) rfl B) z am h1) ?_;rintro _ w2 ⟨rfl,H⟩;refine⟨_,rfl,eW (λP=>⟨V,P,H⟩) (λhle=>S _ ?_)⟩;have:=ov (l:=l) (λx hx=>(z x hx).1);rw[E1 g (.inr bA)];exact H.tail
 ·rw[E1 g (.inl bA)];exact h1.tail
 rintro _ w2 ⟨Q,I,H⟩;refine use (aKr B H bA) ?_;rintro _ ao ⟨ps,rfl,X,Y⟩;refine⟨ps,rfl,?_⟩;rw[p7 g]at X;have b:=EZ g;obtain⟨O,L⟩:∃f:Nat->bU,f= λk=>(ie n' l).take k++List.replicate (l.length-k) 0:=⟨_,rfl⟩
 obtain⟨F,J⟩:∃f:Nat->bU,f= λk=>(List.zipWith (· - ·) l (ie n' l)).take k++l.drop k:=⟨_,rfl⟩
 have N:∀k,k<=l.length->(O k).length=l.length:=λk d=>by rw[L];simp[b];omega
 have D:∀k,k<=l.length->(F k).length=l.length:=λk d=>by rw[J];simp[b];omega
 have af:O 0=List.replicate l.length 0:=by rw[L];simp
 have ab:F 0=l:=by rw[J];simp
 have ag:O l.length=ie n' l:=by rw[L];simp only;rw[hG,<- b,fN];simp
 have ad:F l.length=List.zipWith (· - ·) l (ie n' l):=by rw[J];simp only;rw[hE (by simp[b]),xy,hF]
 have Y:Sep E (bC ps 1 (bD (iI n' l))::bC u 1 (bD (F 0))::bC j 1 (bD (O 0))::M) ao:=by rw[af,ab];exact Y
 have G:∀k,0<=cn ((ie n' l).take k):=λk=>ov λy R=>by
  obtain⟨i,s⟩:=pw.1 (mx R);have c:=(cT.1 s).1;rw[b]at c;obtain⟨p,_,o,v,_⟩:=r2 g I (dD c);rw[o]at s;cases s;exact v
 obtain⟨ar,au,aj⟩:=aH0 g I Q;refine⟨λm x w'=>∃k:Nat,x=k/\k<=l.length/\m=n'-cn ((ie n' l).take k)/\Sep E (bC ps 1 (bD (iI n' l))::bC u 1 (bD (F k))::bC j 1 (bD (O k))::M) w',λ_ x _=>(l.length-x).toNat,⟨0,rfl,ec _,by simp[r1],Y⟩,?_⟩;rintro _ _ _ aJ ⟨k,rfl,d,rfl,C⟩;refine cL (λaw=>?_) (λav=>?_)
 ·have A:k<l.length:=by omega
  obtain⟨x,hx⟩:∃x,l[k]?=some x:=⟨_,dD A⟩
  obtain⟨p,hp,Z,aE,aF⟩:=r2 g I hx;have al:=z x (eu hx);rw[ou]at al;have U:(F k)[k]?=some x:=by
   rw[J];simp only;rw[fo (by rw[g7,List.length_zipWith,b];omega)];simp[b,pE d,hx]
  have ah:(O k)[k]?=some 0:=by
   rw[L];simp only;rw[fo (by simp;omega)];rw[g7,b,pE d,hG,lN,eG]
  refine(Ints.at_ (q:=0) rfl (by rw[p7 g];exact X)).el C k rfl hp ?_;refine(Ints.at_ (q:=1) rfl (by rw[D k d];exact B)).el C k rfl U ?_;refine(Ints.at_ (q:=2) rfl (by rw[N k d];exact W)).el C k rfl ah ?_;have em:min1 p x=min p x:=by unfold min1;omega
  rw[em];generalize hm:min p x=t at*
  rw[cH (n:=0+t) bA bA];refine iY (C.fr 2 rfl) (by rw[N k d];exact W) bA (by rw[N k d];omega) (λap o=>?_);have ai:(O k).set ((k:Nat):Int).toNat (0+t)=O (k+1):=by
   rw[dk,Bc,L];simp only;rw[fw Z,ik k _ (by simp;omega),dc];congr 1;rw[g7,b,pE d,hG,show l.length-k=(l.length-(k+1))+1 by omega,nV];rfl
  rw[ai]at o;have o:Sep E (bC j 1 (bD (O (k+1)))::bC ps 1 (bD (iI n' l))::bC u 1 (bD (F k))::M) ap:=o;refine(Ints.at_ (q:=2) rfl (by rw[D k d];exact B)).el o k rfl U ?_;rw[cH (n:=x-t) bA bA];refine iY (o.fr 2 rfl) (by rw[D k d];exact B) bA (by rw[D k d];omega) (λaq v=>?_);have ae:(F k).set ((k:Nat):Int).toNat (x-t)=F (k+1):=by
   rw[dk,J];simp only;have T:(List.zipWith (· - ·) l (ie n' l))[k]?=some (x-t):=by simp[GO,hx,Z]
   rw[fw T,ik k _ (by simp;omega),dc];congr 1;rw[g7,List.length_zipWith,b,Nat.min_self,pE d,hG];rw[ln A];rfl
  rw[ae]at v;have v:Sep E (bC u 1 (bD (F (k+1)))::bC j 1 (bD (O (k+1)))::bC ps 1 (bD (iI n' l))::M) aq:=v;have aA:=Af Z;have aB:=G k;have aC:=G (k+1);have aD:cn ((ie n' l).take (k+1))<=cn (ie n' l):=by
   conv=>rhs;rw[<- fA (k+1) (ie n' l)]
   rw[EW];have:0<=cn ((ie n' l).drop (k+1)):=ov λy R=>by
    obtain⟨i,s⟩:=pw.1 (uL R);have c:=(cT.1 s).1;rw[b]at c;obtain⟨p,_,o,v,_⟩:=r2 g I (dD c);rw[o]at s;cases s;exact v
   omega
  rw[c1,cH bA bA];refine⟨⟨k+1,rfl,A,bA,v.ro 3 [2,0,1] rfl⟩,?_⟩;show(((l.length:Nat):Int)-((k+1:Nat):Int)).toNat<(((l.length:Nat):Int)-(k:Int)).toNat;omega
 ·have A:k=l.length:=by omega
  subst A;rw[ag,ad]at C;have aa:(ie n' l).take l.length=ie n' l:=by rw[<- b,fN]
  rw[aa];refine⟨.inr ⟨List.zipWith (· - ·) l (ie n' l),?_,by simp[b],?_,?_⟩,by show(n'-cn (ie n' l)).toNat<n'.toNat;omega⟩;rotate_left
  ·intro y R;obtain⟨i,s⟩:=pw.1 R;have c:=(cT.1 s).1;simp[b]at c;obtain⟨p,_,o,v,aG⟩:=r2 g I (dD c);have aH:=z _ (m7 c);rw[GO,dD c,o]at s;simp only[eF]at s;omega
  ·rw[E0 g I Q]at C ⊢;exact C.tail
  ·rcases aj with e|e;·exact .inl bA
   ·refine .inr ?_;rw[e];have:List.zipWith (· - ·) l l=l.map (λ_=>(0:Int)):=by
     apply g6;intro i;rw[GO,ew];cases l[i]? <;>simp
    rw[this];have T:∀m:bU,cn (m.map λ_=>(0:Int))=0:=by
     intro m;induction m with
     |nil=>rfl
     |cons a m an=>rw[mC,mc,an];rfl
    exact T l
def aIB{s:Sl}{l:bU}{n:Int}(b:s.n=l.length)(p:l.length<1000000)(h:Sep E (bC s 1 (bD l)::L) w):
  Calls P Jt #[Iv n,Sv s] w (bW λv w'=>∃e:Sl,v=Sv e/\e.n=(iR n l).length/\Sep E (bC e 1 (bD (iR n l))::bC s 1 (bD l)::L) w'):=by
 obtain⟨K,i⟩:∃K:bh7,K= λv w'=>∃e:Sl,v=Sv e/\e.n=(iR n l).length/\Sep E (bC e 1 (bD (iR n l))::bC s 1 (bD l)::L) w':=⟨_,rfl⟩
 rw[<- i];apply Xb;unfold LC qD qF qI qJ qO qQ qW qg;refine use (QC b h) ?_;rintro _ r ⟨rfl,h1⟩;refine⟨_,rfl,?_⟩;cases c:h8 n l with
 |false=>
  have e:iR n l= []:=by unfold iR;rw[bM c]
  exact bT rfl (by rw[i,e];exact⟨⟨none,0,0⟩,rfl,rfl,bC.none_ h1⟩)
 |true=>
  refine bF rfl (Dr.i h1 (λm k=>?_));have o:(iR n l).length=l.length:=by
   unfold iR;rw[bJ (by rw[c];decide)];split;·simp
   ·split;·rfl
    ·exact p7 c
  have A:∃x:Sl,∃a:World,Sem.run P (Instr.makeSlice jB (Iv ((s.n:Nat):Int)) (Iv ((s.n:Nat):Int))) m=.ok (Sv x) a/\Calls P vC #[Sv s] a λe d=>∃y:Sl,e=.returned (Sv y)/\pc n y x K d:=by
   refine pb (n:=s.n) bA k (λx a hx f=>?_);refine use (QB f (q:=1) rfl b bA) ?_;rintro _ d ⟨y,rfl,j,g⟩;rw[b]at g;refine⟨y,rfl,QU c j bA g (λw' h'=>?_)⟩;rw[i];exact⟨x,rfl,bA,h'⟩
  have B:Calls P vC #[Sv s] m λe d=>∃y:Sl,e=.returned (Sv y)/\∃x:Sl,∃a:World,Sem.run P (Instr.makeSlice jB (Iv ((s.n:Nat):Int)) (Iv ((s.n:Nat):Int))) d=.ok (Sv x) a/\pc n y x K a:=by
   refine use (QB k (q:=0) rfl b bA) ?_;rintro _ d ⟨y,rfl,j,g⟩;refine⟨y,rfl,pb (n:=s.n) bA g (λx a hx f=>?_)⟩;rw[b]at f;refine QU c j bA f.swap (λw' h'=>?_);rw[i];exact⟨x,rfl,bA,h'⟩
  try simp only[and_true]
  repeat' first|exact A|exact B|apply And.intro
end Go.Mp
