/- A part of the proof. -/
import Derived.Test.YtafigbgagbolgaaGreatDoorD09
import Derived.Shelf.Slices.Clone
import Derived.Test.YtafigbgagbolgaaGreatDoorProg
set_option linter.all false
set_option maxRecDepth 100000
open Go.IntKind(i64 u64)
open Go.Proofs.Tryz
namespace Go.Mp.Sh
open Go Go.Vc Go.Sp Go.Stab Go.Mp
structure cY where
 at_:Int
 low:Int
def cY.vs(x:cY):bA bH:=[Iv x.at_,.int .u64 x.low]
def cY.lb(x:cY):x.vs.length=2:=rfl
section
variable{E:Env}{L:cr}{w:bI}{s:Sl}{l:bA cY}
def hc{F:Int->Int->Prop}{i:Int}{x:cY}(k:Nat)(h:Sep E (bw s 2 (bO cY.vs l)::L) w)(hn:s.n=l.length)(d:i=k)(hx:l[k]?=some x)(f:F x.at_ x.low):cF s.p s.n i 2 λa=>∃v:Int,w.cell? (a.add 0)=some (Iv v)/\∃u:Int,w.cell? (a.add 1)=some (.int .u64 u)/\F v u:=
 jL cY.lb 0 h rfl hn d hx (λb _ c=>⟨_,by rw[cj];exact c 0 _ rfl,_,by rw[cj];exact c 1 _ rfl,f⟩)
def kS{f:bi9}{i:Int}{x:cY}(k:Nat)(h:Sep E (bw s 2 (bO cY.vs l)::L) w)(hn:s.n=l.length)(d:i=k)(hk:k<l.length)(g:∀c,Sep E (bw s 2 (bO cY.vs (l.set k x))::L) c->f c):
  cF s.p s.n i 2 λa=>k5 [Iv x.at_,.int .u64 x.low] a f w:=by
 refine bw.el 0 h rfl bu bu (λb hb _=>?_);have e:i.toNat=k:=by omega
 rw[e];have hle:(k+1)*2<=l.length*2:=k2 _ hk;refine bw.sM h hb (by show 0<2;decide) (by rw[oD cY.lb];simp;omega) (λc h1=>g c ?_);have:=ZS cY.lb (l:=l) (i:=k) (j:=0) (a:=l[k]) (a':=x) (xs:=[Iv x.at_,.int .u64 x.low]) (ea hk) (by show 0+2<=2;decide) rfl;rw[l2]at this;rw[this]at h1;exact h1
def gO(E:Env)(L:cr)(s:Sl)(cmp:bH)(lt:cY->cY->Bool)(n:Nat):Prop:=
 ∀(l:bA cY) (x y:cY) (w:bI),l.length=n->Sep E (bw s 2 (bO cY.vs l)::L) w->fe P cmp #[.agg #[Iv x.at_,.int .u64 x.low],.agg #[Iv y.at_,.int .u64 y.low]] w λe w'=>∃r:Int,e=.returned (Iv r)/\decide (r<0)=lt x y/\Sep E (bw s 2 (bO cY.vs l)::L) w'
variable{cmp:bH}{lt:cY->cY->Bool}{n:Nat}
def gO.i(a:gO E L s cmp lt n)(hl:l.length=n)(h:Sep E (bw s 2 (bO cY.vs l)::L) w){x y:cY}{A B:bi9}(b:lt x y=true->∀w',Sep E (bw s 2 (bO cY.vs l)::L) w'->A w')(c:lt x y=false->∀w',Sep E (bw s 2 (bO cY.vs l)::L) w'->B w'):
  fe P cmp #[.agg #[Iv x.at_,.int .u64 x.low],.agg #[Iv y.at_,.int .u64 y.low]] w λe w'=>∃r:Int,e=.returned (Iv r)/\bif decide (r<0)then A w' else B w':=by
 refine fe.use (a l x y w hl h) ?_;rintro e w' ⟨r,rfl,hr,h'⟩;refine⟨r,rfl,?_⟩;rw[hr];cases hb:lt x y with
 |true=>exact b hb w' h'
 |false=>exact c hb w' h'
def gO.j(a:gO E L s cmp lt n)(hl:l.length=n)(h:Sep E (bw s 2 (bO cY.vs l)::L) w){x y:cY}{A B:bi9}(b:lt x y=true->∀w',Sep E (bw s 2 (bO cY.vs l)::L) w'->A w')(c:lt x y=false->∀w',Sep E (bw s 2 (bO cY.vs l)::L) w'->B w'):
  fe P cmp #[.agg #[Iv x.at_,.int .u64 x.low],.agg #[Iv y.at_,.int .u64 y.low]] w λe w'=>∃r:Int,e=.returned (Iv r)/\bif(!(decide (r<0)))then B w' else A w':=by
 refine fe.use (a l x y w hl h) ?_;rintro e w' ⟨r,rfl,hr,h'⟩;refine⟨r,rfl,?_⟩;rw[hr];cases hb:lt x y with
 |true=>exact b hb w' h'
 |false=>exact c hb w' h'
structure lO(R b:cY->cY->Prop)(lt:cY->cY->Bool):Prop where
 ord:Ord R
 ne:∀x y,b x y->x≠y
 ask:∀x y,b x y->(lt y x=true↔R y x)
variable{R b:cY->cY->Prop}
def lO.no(K:lO R b lt){x y:cY}(hb:b x y)(h:lt y x=false):R x y:=
 K.ord.not (l3 (K.ne x y hb)) (λhr=>by rw[(K.ask x y hb).2 hr]at h;cases h)
def lP{A B:bA cY}{k:Nat}:(A++B)[A.length+k]?=B[k]? :=by
 rw[fL bu];congr 1;omega
def kT{A P B:bA cY}{i k:Nat}{x:cY}(a:i<=P.length)(hk:k<=P.length):(A++ins P i x++B)[A.length+k]?=if k<i then P[k]? else if k=i then some x else P[k-1]? :=by
 have:=m8 P i x;rw[dp,lP,eQ bu,sX P i x a]
def wv{A M B:bA cY}(K:lO R b lt)(V:M.Pairwise b)(hn:s.n=(A++M++B).length)(H:(A++M++B).length<4611686018427387904)(J:gO E L s cmp lt (A++M++B).length)(h:Sep E (bw s 2 (bO cY.vs (A++M++B))::L) w){a e:Int}(W:a=A.length)(he:e=A.length+M.length):
  Calls P D1 #[Sv s,Iv a,Iv e,cmp] w (cC λv w'=>v=.tuple #[]/\∃G,G.Perm M/\G.Pairwise R/\Sep E (bw s 2 (bO cY.vs (A++G++B))::L) w'):=by
 subst W he;have hlen:(A++M++B).length=A.length+M.length+B.length:=by simp;omega
 apply Zv;unfold acl qO qU qW qg zM;rw[hlen]at hn H J;refine⟨λi w=>∃(k:Nat) (S:bA cY),i=A.length+k/\1<=k/\(k<=M.length\/M= [])/\S.Perm (M.take k)/\S.Pairwise R/\Sep E (bw s 2 (bO cY.vs (A++S++(M.drop k++B)))::L) w,λi _=>(A.length+M.length-i).toNat,?_,?_⟩
 ·rw[cX bu bu];refine⟨1,M.take 1,bu,ec _,?_,.refl _,?_,?_⟩
  ·cases M with
   |nil=>exact .inr rfl
   |cons x M=>left;simp
  ·cases M with
   |nil=>simp
   |cons x M=>simp
  ·have:A++M.take 1++(M.drop 1++B)=A++M++B:=by
    rw[<- dp,dp A,fP]
   rw[this];exact h
 rintro _ i ag ⟨k,S,rfl,ab,d,p,z,h1⟩;refine cU (λad=>?_) (λZ=>⟨rfl,S,?_,z,?_⟩)
 ·have D:k<M.length:=by omega
  have q:S.length=k:=by rw[p.length_eq];simp;omega
  have hx:M[k]?=some M[k]:=ea D;generalize Q:M[k]=x at hx;have t:M.drop k=x::M.drop (k+1):=by rw[<- Q];exact kZ D
  have C:∀y∈S,b y x:=by
   intro y f;obtain⟨j,X,N⟩:=sY (p.mem_iff.1 f);exact pY V N hx X
  refine⟨λj w=>∃m:Nat,j=A.length+m/\m<=k/\(k<=m\/∃y,S[m]?=some y/\R x y)/\Sep E (bw s 2 (bO cY.vs (A++ins S m x++(M.drop (k+1)++B)))::L) w,λj _=>(j-A.length).toNat,?_,?_⟩
  ·refine⟨k,rfl,ec _,.inl (ec _),?_⟩;have e:A++ins S k x++(M.drop (k+1)++B)=A++S++(M.drop k++B):=by
    rw[<- q,x2,q,t];simp
   rw[e];exact h1
  rintro _ j w2 ⟨m,rfl,af,O,h2⟩;have g:(A++ins S m x++(M.drop (k+1)++B)).length=A.length+M.length+B.length:=by
   have:=m8 S m x;simp only[df,this,ot];omega
  have out:∀ {r:bI},(m=0\/∃y,S[m-1]?=some y/\R y x)->Sep E (bw s 2 (bO cY.vs (A++ins S m x++(M.drop (k+1)++B)))::L) r->
    ((∃(k':Nat) (S:bA cY),(i64.wrap (A.length+k+1))=A.length+k'/\1<=k'/\(k'<=M.length\/M= [])/\S.Perm (M.take k')/\S.Pairwise R/\Sep E (bw s 2 (bO cY.vs (A++S++(M.drop k'++B)))::L) r)/\
     (A.length+M.length-i64.wrap (A.length+k+1)).toNat<(A.length+M.length-(A.length+k:Int)).toNat):=by
   intro r u l;rw[cX bu bu];refine⟨⟨k+1,ins S m x,bu,bu,.inl bu,?_,?_,l⟩,bu⟩
   ·refine(sW S m x).trans ?_;rw[l0,hx];exact(List.Perm.cons x p).trans (mu (l₁:=[x]))
   ·exact sZ K.ord z u (by rw[q];exact O)
  refine⟨λw=>∃c y,m=c+1/\S[c]?=some y/\R x y/\Sep E (bw s 2 (bO cY.vs (A++ins S m x++(M.drop (k+1)++B)))::L) w,?_,?_⟩
  ·refine Dr.i h2 (λr l=>gv (λaa=>?_) (λhle=>?_))
   ·obtain⟨c,rfl⟩:∃c,m=c+1:=⟨m-1,bu⟩
    have f:S[c]?=some (S[c]'bu):=du;generalize S[c]'(bu)=y at f;have F:y∈S:=eG f;rw[cX bu bu];refine hc (A.length+(c+1)) l (by rw[hn,g]) bu (by rw[kT bu bu,cK,bK rfl]) ?_;refine hc (A.length+c) l (by rw[hn,g]) bu (by rw[kT bu bu,eV];exact f) ?_;refine J.i g l (λY T o=>⟨c,y,rfl,f,(K.ask y x (C y F)).1 Y,o⟩) (λhf T o=>out (.inr ⟨y,f,K.no (C y F) hf⟩) o)
   ·exact out (.inl bu) l
  ·rintro _ r ⟨c,y,rfl,f,hr,l⟩;have ae:c<S.length:=(c2.1 f).1;refine Dr.i l (λT o=>?_);rw[cX (n:=A.length+((c+1:Nat):Int)-1) bu bu];refine hc (A.length+c) o (by rw[hn,g]) bu (by rw[kT bu bu,eV];exact f) ?_;refine hc (A.length+(c+1)) o (by rw[hn,g]) bu (by rw[kT bu bu,cK,bK rfl]) ?_;refine kS (A.length+(c+1)) o (by rw[hn,g]) bu bu (λah U=>?_);refine kS (A.length+c) U (by rw[eh,hn,g]) bu (by rw[eh];omega) (λai I=>?_);rw[<- uR,x3 f]at I;exact⟨⟨c,bu,bu,.inr ⟨y,f,hr⟩,I⟩,by dsimp only;omega⟩
 ·rcases d with d|d
  ·have:k=M.length:=by omega
   rw[this,fB]at p;exact p
  ·subst d;simpa using p
 ·have:M.drop k= []:=by
   rcases d with d|d;·exact lo bu
   ·subst d;simp
  rw[this,l1]at h1;exact h1
def sa{A U M V B:bA cY}(f:U.length=V.length)(hn:s.n=(A++U++M++V++B).length)(o:(A++U++M++V++B).length<4611686018427387904)(h:Sep E (bw s 2 (bO cY.vs (A++U++M++V++B))::L) w){a e n':Int}(m:a=A.length)(he:e=A.length+U.length+M.length)(g:n'=U.length):
  Calls P y5 #[Sv s,Iv a,Iv e,Iv n',cmp] w (cZ E (.tuple #[]) (bw s 2 (bO cY.vs (A++V++M++U++B))::L)):=by
 subst m he g;have hlen:(A++U++M++V++B).length=A.length+U.length+M.length+V.length+B.length:=by simp only[df]
 apply ZG;unfold NX qO qU qW zM;refine⟨λi w=>∃(k:Nat) (l':bA cY),i=k/\k<=U.length/\nR (A++U++M++V++B) l' A.length (A.length+U.length+M.length) k/\Sep E (bw s 2 (bO cY.vs l')::L) w,λi _=>(U.length-i).toNat,⟨0,_,rfl,dX _,nR.zero _ _ _,h⟩,?_⟩;rintro _ i r ⟨k,l',rfl,hk,c,h1⟩;have b:l'.length=s.n:=by rw[c.1,hn]
 refine cU (λq=>Dr.i h1 (λw2 h2=>?_)) (λp=>⟨rfl,?_⟩)
 ·rw[cX (n:=(A.length:Int)+U.length+M.length+k) bu bu,cX (n:=(A.length:Int)+k) bu bu,cX (n:=(k:Int)+1) bu bu];have hx:l'[A.length+U.length+M.length+k]?=some (l'[A.length+U.length+M.length+k]'bu):=du;have d:l'[A.length+k]?=some (l'[A.length+k]'bu):=du;generalize l'[A.length+U.length+M.length+k]'(bu)=x at hx;generalize l'[A.length+k]'(bu)=y at d;refine hc _ h2 b.symm bu hx (hc _ h2 b.symm bu d ?_);refine kS (A.length+k) h2 b.symm bu bu (λt j=>kS (A.length+U.length+M.length+k) j (by rw[eh];exact b.symm) bu (by rw[eh];omega) (λu l=>?_));exact⟨⟨k+1,_,bu,bu,c.step (n:=U.length) bu bu hx d,l⟩,by dsimp only;omega⟩
 ·have:k=U.length:=by omega
  subst this;rw[c.eq f]at h1;exact h1
def E6{A X Y B:bA cY}(p:1<=X.length)(q:1<=Y.length)(hn:s.n=(A++X++Y++B).length)(t:(A++X++Y++B).length<4611686018427387904)(h:Sep E (bw s 2 (bO cY.vs (A++X++Y++B))::L) w){a m e:Int}(r:a=A.length)(hm:m=A.length+X.length)(he:e=A.length+X.length+Y.length):
  Calls P KP #[Sv s,Iv a,Iv m,Iv e,cmp] w (cZ E (.tuple #[]) (bw s 2 (bO cY.vs (A++Y++X++B))::L)):=by
 subst r hm he;have hlen:(A++X++Y++B).length=A.length+X.length+Y.length+B.length:=by simp only[df]
 apply ZD;unfold NU qE qI;rw[cX (n:=(A.length:Int)+X.length-A.length) bu bu,cX (n:=(A.length:Int)+X.length+Y.length-(A.length+X.length)) bu bu];refine⟨λi j w=>∃A' c b d:bA cY,i=c.length/\j=b.length/\1<=c.length/\1<=b.length/\A'.length+c.length=A.length+X.length/\A'++b++c++d=A++Y++X++B/\Sep E (bw s 2 (bO cY.vs (A'++c++b++d))::L) w,
  λi j _=>(i+j).toNat,⟨A,X,Y,B,bu,bu,p,q,rfl,rfl,h⟩,?_⟩
 rintro _ i j G ⟨A',c,b,d,rfl,rfl,u,x,C,f,h1⟩;have z:A'.length+b.length+c.length+d.length=A.length+X.length+Y.length+B.length:=by
  have:=eO List.length f;simp only[df]at this;omega
 have D:s.n=A'.length+b.length+c.length+d.length:=by omega
 rw[cX (n:=(A.length:Int)+X.length-c.length) bu bu];refine g0 (λF=>gv (λy=>?_) (λhle=>?_)) (λheq=>?_)
 ·
  have l:A'++c++b++d=A'++c.take b.length++c.drop b.length++b++d:=by rw[dp A' (c.take _),fP]
  have g:(c.take b.length).length=b.length:=by simp;omega
  have k:(c.drop b.length).length=c.length-b.length:=by simp
  rw[l]at h1;refine use (sa (cmp:=cmp) g (by simp only[df,g,k];omega) (by simp only[df,g,k];omega) h1 bu bu bu) ?_;rintro _ w2 ⟨rfl,h2⟩;rw[cX bu bu];refine⟨rfl,⟨A'++b,c.drop b.length,c.take b.length,d,bu,bu,bu,bu,by simp only[df];omega,?_,h2⟩,by dsimp only;omega⟩;rw[<- f,dp (A'++b),fP]
 ·have l:A'++c++b++d=A'++c++b.take (b.length-c.length)++b.drop (b.length-c.length)++d:=by rw[dp (A'++c) (b.take _),fP]
  have g:(b.take (b.length-c.length)).length=b.length-c.length:=by simp
  have k:(b.drop (b.length-c.length)).length=c.length:=by simp;omega
  rw[l]at h1;rw[cX (n:=(A.length:Int)+X.length+b.length) bu bu,cX (n:=(A.length:Int)+X.length+b.length-c.length) bu bu];refine use (sa (cmp:=cmp) k.symm (by simp only[df,g,k];omega) (by simp only[df,g,k];omega) h1 bu bu bu) ?_;rintro _ w2 ⟨rfl,h2⟩;rw[cX bu bu];refine⟨rfl,⟨A',b.drop (b.length-c.length),b.take (b.length-c.length),c++d,bu,bu,bu,bu,bu,?_,?_⟩,by dsimp only;omega⟩;·rw[<- f,dp A' (b.take _),fP];simp
  ·have:A'++b.drop (b.length-c.length)++b.take (b.length-c.length)++c++d=A'++b.drop (b.length-c.length)++b.take (b.length-c.length)++(c++d):=by simp
   rw[<- this];exact h2
 ·have o:c.length=b.length:=by omega
  have l:A'++c++b++d=A'++c++[]++b++d:=by simp
  rw[l]at h1;refine use (sa (cmp:=cmp) o (by simp only[df,rr];omega) (by simp only[df,rr];omega) h1 bu (by simp only[rr];omega) bu) ?_;rintro _ w2 ⟨rfl,h2⟩;refine⟨rfl,rfl,?_⟩;rw[<- f];have:A'++b++[]++c++d=A'++b++c++d:=by simp
  rw[this]at h2;exact h2
end
end Go.Mp.Sh
namespace Go.Mp.Sh
open Go Go.Vc Go.Sp Go.Stab Go.Mp
section
variable{E:Env}{L:cr}{w:bI}{s:Sl}{cmp:bH}{lt:cY->cY->Bool}{n:Nat}{R b:cY->cY->Prop}
def lQ{A X Y B:bA cY}{k:Nat}(hk:k<X.length):(A++X++Y++B)[A.length+k]?=X[k]? :=by
 rw[dp,dp,lP,eQ hk]
def lR{A X Y B:bA cY}{k:Nat}(hk:k<Y.length):(A++X++Y++B)[A.length+X.length+k]?=Y[k]? :=by
 have:A.length+X.length+k=(A++X).length+k:=by simp
 rw[this,dp,lP,eQ hk]
def wx(K:lO R b lt)(aX:n<1152921504606846976)(hn:s.n=n)(aD:gO E L s cmp lt n):∀(N:Nat) {A X Y B:bA cY} {w:bI},X.length+Y.length<=N->1<=X.length->1<=Y.length->
  X.Pairwise R->Y.Pairwise R->(∀x∈X,∀y∈Y,b x y)->(A++X++Y++B).length=n->Sep E (bw s 2 (bO cY.vs (A++X++Y++B))::L) w->∀ {a m e:Int},a=A.length->m=A.length+X.length->e=A.length+X.length+Y.length->
  Calls P vP #[Sv s,Iv a,Iv m,Iv e,cmp] w (cC λv w'=>v=.tuple #[]/\∃Z,Z.Perm (X++Y)/\Z.Pairwise R/\Sep E (bw s 2 (bO cY.vs (A++Z++B))::L) w'):=by
 intro N;induction N with
 |zero=>intro A X Y B w h1 h2;omega
 |succ N aP=>
 intro A X Y B w a5 aI aJ ao ap hb aL h a m e aW hm he;subst aW hm he;have hlen:(A++X++Y++B).length=A.length+X.length+Y.length+B.length:=by simp only[df]
 rw[hlen]at aL;have J:s.n=(A++X++Y++B).length:=by omega
 apply Zw;unfold NM qE qI qO qU qW qg qh zM zP;rw[cX (n:=(A.length:Int)+X.length-A.length) bu bu,cX (n:=(A.length:Int)+X.length+Y.length-(A.length+X.length)) bu bu];refine eC (λh1=>?_) (λaY=>eC (λh2=>?_) (λaZ=>?_))
 ·
  obtain⟨x,rfl⟩:∃x,X= [x]:=by
   match X,aI,h1 with
   |[x],_,_=>exact⟨x,rfl⟩
   |_::_::_,_,h=>simp at h;omega
  simp only[mx]at*
  have ay:∀y∈Y,b x y:=λy l=>hb x (by simp) y l;refine⟨λi j w=>∃p q:Nat,i=A.length+1+p/\j=A.length+1+q/\p<=q/\q<=Y.length/\(p=0\/∃y,Y[p-1]?=some y/\R y x)/\(Y.length<=q\/∃y,Y[q]?=some y/\R x y)/\Sep E (bw s 2 (bO cY.vs (A++[x]++Y++B))::L) w,
   λi j _=>(j-i).toNat,⟨0,Y.length,bu,bu,bu,bu,.inl rfl,.inl (ec _),h⟩,?_⟩
  rintro _ i j aS ⟨p,q,rfl,rfl,az,aG,F,G,h1⟩;refine cU (λag=>⟨bN,Dr.i h1 (λw2 h2=>?_)⟩) (λaf=>?_)
  ·have z:((A.length:Int)+1+p+(A.length+1+q))/2=((A.length+1+(p+q)/2:Nat):Int):=by omega
   rw[half,z];have u:(p+q)/2<Y.length:=by omega
   have l:Y[(p+q)/2]?=some (Y[(p+q)/2]'u):=ea u;generalize Y[(p+q)/2]'u=y at l;have aB:y∈Y:=eG l;refine hc (A.length+1+(p+q)/2) h2 J rfl ((lR (A:=A) (X:=[x]) (B:=B) u).trans l) (hc (A.length+0) h2 J bu (by rw[lQ (by simp)];rfl) ?_);refine aD.i bu h2 (λO aa f=>?_) (λhf aa f=>?_)
   ·rw[cX bu bu];exact⟨⟨(p+q)/2+1,q,bu,rfl,bu,aG,.inr ⟨y,by simpa using l,(K.ask x y (ay y aB)).1 O⟩,G,f⟩,by dsimp only;omega⟩
   ·exact⟨⟨p,(p+q)/2,rfl,bu,bu,bu,F,.inr ⟨y,l,K.no (ay y aB) hf⟩,f⟩,by dsimp only;omega⟩
  ·have V:p=q:=by omega
   subst V;rw[cX (n:=(A.length:Int)+1+p-1) bu bu];have e0:A++[x]++Y++B=A++ins Y 0 x++B:=by simp[ins]
   rw[e0]at h1;refine⟨λk w=>∃t:Nat,k=A.length+t/\t<=p/\Sep E (bw s 2 (bO cY.vs (A++ins Y t x++B))::L) w,λk _=>(A.length+p-k).toNat,⟨0,bu,bu,h1⟩,?_⟩;rintro _ k w2 ⟨t,rfl,O,h2⟩;have C:s.n=(A++ins Y t x++B).length:=by
    have:=m8 Y t x;simp only[df,this];omega
   refine cU (λag=>Dr.i h2 (λaa f=>?_)) (λaf=>?_)
   ·rw[cX (n:=(A.length:Int)+t+1) bu bu];have l:Y[t]?=some (Y[t]'bu):=du;generalize Y[t]'(bu)=y at l;refine hc (A.length+(t+1)) f C bu (by rw[kT bu bu,cK,cK];exact l) ?_;refine hc (A.length+t) f C bu (by rw[kT bu bu,cK,bK rfl]) ?_;refine kS (A.length+t) f C bu bu (λah r=>kS (A.length+t+1) r (by rw[eh];exact C) bu (by rw[eh];omega) (λaH I=>?_));rw[IK l]at I;exact⟨⟨t+1,bu,bu,I⟩,by dsimp only;omega⟩
   ·have:t=p:=by omega
    subst this;exact⟨trivial,ins Y t x,sW Y t x,sZ K.ord ap F G,h2⟩
 ·
  obtain⟨y,rfl⟩:∃y,Y= [y]:=by
   match Y,aJ,h2 with
   |[y],_,_=>exact⟨y,rfl⟩
   |_::_::_,_,h=>simp at h;omega
  simp only[mx]at*
  have ax:∀x∈X,b x y:=λx hx=>hb x hx y (by simp);refine⟨λi j w=>∃p q:Nat,i=A.length+p/\j=A.length+q/\p<=q/\q<=X.length/\(p=0\/∃x,X[p-1]?=some x/\R x y)/\(X.length<=q\/∃x,X[q]?=some x/\R y x)/\Sep E (bw s 2 (bO cY.vs (A++X++[y]++B))::L) w,
   λi j _=>(j-i).toNat,⟨0,X.length,bu,bu,bu,bu,.inl rfl,.inl (ec _),h⟩,?_⟩
  rintro _ i j aS ⟨p,q,rfl,rfl,az,aG,F,G,h1⟩;refine cU (λag=>⟨bN,Dr.i h1 (λw2 h2=>?_)⟩) (λaf=>?_)
  ·have z:((A.length:Int)+p+(A.length+q))/2=((A.length+(p+q)/2:Nat):Int):=by omega
   rw[half,z];have u:(p+q)/2<X.length:=by omega
   have hx:X[(p+q)/2]?=some (X[(p+q)/2]'u):=ea u;generalize X[(p+q)/2]'u=x at hx;have aA:x∈X:=eG hx;refine hc (A.length+X.length+0) h2 J bu (by rw[lR (by simp)];rfl) (hc (A.length+(p+q)/2) h2 J rfl (by rw[lQ u];exact hx) ?_);refine aD.j bu h2 (λO aa f=>?_) (λhf aa f=>?_);·exact⟨⟨p,(p+q)/2,rfl,bu,bu,bu,F,.inr ⟨x,hx,(K.ask x y (ax x aA)).1 O⟩,f⟩,by dsimp only;omega⟩
   ·rw[cX bu bu];exact⟨⟨(p+q)/2+1,q,bu,rfl,bu,aG,.inr ⟨x,by simpa using hx,K.no (ax x aA) hf⟩,G,f⟩,by dsimp only;omega⟩
  ·have V:p=q:=by omega
   subst V;have e0:A++X++[y]++B=A++ins X X.length y++B:=by rw[x2];simp
   rw[e0]at h1;refine⟨λk w=>∃t:Nat,k=A.length+t/\p<=t/\t<=X.length/\Sep E (bw s 2 (bO cY.vs (A++ins X t y++B))::L) w,λk _=>(k-A.length).toNat,⟨X.length,rfl,bu,bu,h1⟩,?_⟩;rintro _ k w2 ⟨t,rfl,O,a1,h2⟩;have C:s.n=(A++ins X t y++B).length:=by
    have:=m8 X t y;simp only[df,this];omega
   refine gv (λag=>Dr.i h2 (λaa f=>?_)) (λaf=>?_)
   ·obtain⟨M,rfl⟩:∃M,t=M+1:=⟨t-1,bu⟩
    rw[cX (n:=(A.length:Int)+((M+1:Nat):Int)-1) bu bu];have hx:X[M]?=some (X[M]'bu):=du;generalize X[M]'(bu)=x at hx;refine hc (A.length+M) f C bu (by rw[kT bu bu,eV];exact hx) ?_;refine hc (A.length+(M+1)) f C bu (by rw[kT bu bu,cK,bK rfl]) ?_;refine kS (A.length+M+1) f C bu bu (λah r=>kS (A.length+M) r (by rw[eh];exact C) bu (by rw[eh];omega) (λaH I=>?_));rw[x3 hx]at I;exact⟨⟨M,bu,bu,bu,I⟩,by dsimp only;omega⟩
   ·have:t=p:=by omega
    subst this;exact⟨trivial,ins X t y,(sW X t y).trans (mu (l₁:=[y]) (l₂:=X)),sZ K.ord ao F G,h2⟩
 ·
  refine⟨bN,?_⟩;obtain⟨d,a6⟩:∃d,d=(X.length+Y.length)/2:=⟨_,rfl⟩
  have aF:((A.length:Int)+(A.length+X.length+Y.length))/2=((A.length+d:Nat):Int):=by omega
  rw[half,aF];rw[cX (n:=((A.length+d:Nat):Int)+(A.length+X.length)) bu bu];rw[cX (n:=((A.length+d:Nat):Int)+(A.length+X.length)-(A.length+X.length+Y.length)) bu bu];rw[cX (n:=((A.length+d:Nat):Int)+(A.length+X.length)-1) bu bu];obtain⟨W,U⟩:∃W,W=if X.length>d then d-Y.length else 0:=⟨_,rfl⟩
  obtain⟨Q,T⟩:∃Q,Q=if X.length>d then d else X.length:=⟨_,rfl⟩
  have aq:W<=Q/\Q<=d/\Q<=X.length/\d<=W+Y.length:=by
   rw[U,T];split<;>omega
  refine⟨λi j w=>i=A.length+W/\j=A.length+Q/\Sep E (bw s 2 (bO cY.vs (A++X++Y++B))::L) w,?_,?_⟩
  ·refine gv (λa0=>?_) (λhle=>?_)
   ·refine⟨?_,?_,h⟩;·rw[U,eV];omega
    ·rw[T,eV];omega
   ·refine⟨?_,?_,h⟩;·rw[U,cK];omega
    ·rw[T,cK]
  rintro _ i0 a7 aS ⟨rfl,rfl,h1⟩;refine⟨λi j w=>∃p q:Nat,i=A.length+p/\j=A.length+q/\W<=p/\p<=q/\q<=Q/\(p=W\/∃x y,X[p-1]?=some x/\Y[d-p]?=some y/\R x y)/\(q=Q\/∃x y,Y[d-q-1]?=some y/\X[q]?=some x/\R y x)/\
    Sep E (bw s 2 (bO cY.vs (A++X++Y++B))::L) w,λi j _=>(j-i).toNat,⟨W,Q,rfl,rfl,ec _,aq.1,ec _,.inl rfl,.inl rfl,h1⟩,?_⟩
  rintro _ i j w2 ⟨p,q,rfl,rfl,aM,az,aN,F,G,h2⟩;refine cU (λag=>⟨bN,Dr.i h2 (λaa f=>?_)⟩) (λaf=>?_)
  ·have z:((A.length:Int)+p+(A.length+q))/2=((A.length+(p+q)/2:Nat):Int):=by omega
   rw[half,z];rw[cX (n:=((A.length+d:Nat):Int)+(A.length+X.length)-1-((A.length+(p+q)/2:Nat):Int)) bu bu];obtain⟨c,aK⟩:∃c,c=(p+q)/2:=⟨_,rfl⟩
   rw[<- aK];have ad:c<X.length:=by omega
   have ae:d-1-c<Y.length:=by omega
   have hx:X[c]?=some (X[c]'ad):=ea ad;have l:Y[d-1-c]?=some (Y[d-1-c]'ae):=ea ae;generalize X[c]'ad=x at hx;generalize Y[d-1-c]'ae=y at l;have al:=hb x (eG hx) y (eG l);refine hc (A.length+X.length+(d-1-c)) f J bu (by rw[lR ae];exact l) (hc (A.length+c) f J bu (by rw[lQ ad];exact hx) ?_);refine aD.j bu f (λO ah r=>?_) (λhf ah r=>?_)
   ·refine⟨⟨p,c,rfl,bu,aM,bu,bu,F,.inr ⟨x,y,?_,hx,(K.ask x y al).1 O⟩,r⟩,by dsimp only;omega⟩;rw[show d-c-1=d-1-c by omega];exact l
   ·rw[cX bu bu];refine⟨⟨c+1,q,bu,rfl,bu,bu,aN,.inr ⟨x,y,by simpa using hx,?_,K.no al hf⟩,G,r⟩,by dsimp only;omega⟩;rw[show d-(c+1)=d-1-c by omega];exact l
  ·have V:p=q:=by omega
   subst V;obtain⟨t,O⟩:∃t,t=d-p:=⟨_,rfl⟩
   have am:=x5 K.ord (X:=X) (Y:=Y) (i:=p) (j:=t) ao ap (by
    rcases F with e|⟨x,y,H,ab,ai⟩
    ·by_cases an:X.length>d;·rw[bK an]at U;right;left;omega
     ·rw[bJ an]at U;left;omega
    ·exact .inr (.inr ⟨x,y,H,by rw[O];exact ab,ai⟩)) (by
    rcases G with e|⟨x,y,H,ab,ai⟩
    ·by_cases an:X.length>d;·rw[bK an]at T;left;omega
     ·rw[bJ an]at T;right;left;omega
    ·exact .inr (.inr ⟨x,y,by rw[O];exact H,ab,ai⟩))
   have aQ:(X.take p).length=p:=by simp;omega
   have aR:(Y.take t).length=t:=by simp;omega
   have a2:(X.drop p).length=X.length-p:=by simp
   have a3:(Y.drop t).length=Y.length-t:=by simp
   have aE:i64.wrap (((A.length+d:Nat):Int)+(A.length+X.length)-(A.length+p))=((A.length+X.length+t:Nat):Int):=by
    rw[cX bu bu];omega
   rw[aE];refine⟨λw=>Sep E (bw s 2 (bO cY.vs (A++(X.take p++Y.take t)++(X.drop p++Y.drop t)++B))::L) w,?_,?_⟩
   ·refine⟨λc w=>c=decide (p<X.length/\0<t)/\Sep E (bw s 2 (bO cY.vs (A++X++Y++B))::L) w,?_,?_⟩
    ·refine cU (λg=>⟨?_,h2⟩) (λg=>⟨?_,h2⟩)
     ·have:(decide ((A.length:Int)+X.length<((A.length+X.length+t:Nat):Int)))=decide (0<t):=by
       by_cases o:0<t;·rw[dK o,dK bu]
       ·rw[dq o,dq bu]
      rw[this];by_cases o:0<t;·rw[dK o,dK ⟨bu,o⟩]
      ·rw[dq o,dq (λz=>o z.2)]
     ·exact(dq (λz=>bu)).symm
    rintro _ c aa ⟨rfl,f⟩;refine cy (λg=>?_) (λg=>?_)
    ·have g:=kA g;have H:A++X++Y++B=(A++X.take p)++X.drop p++Y.take t++(Y.drop t++B):=by
      simp only[dp];rw[<- dp (Y.take t),fP,<- dp (X.take p),fP]
     rw[H]at f;refine use (E6 (cmp:=cmp) bu bu (by rw[<- H];exact J) (by rw[<- H];omega) f (by simp only[df];omega) (by simp only[df];omega) (by simp only[df];omega)) ?_;rintro _ ah ⟨rfl,r⟩;refine⟨rfl,?_⟩;have ab:(A++X.take p)++Y.take t++X.drop p++(Y.drop t++B)=A++(X.take p++Y.take t)++(X.drop p++Y.drop t)++B:=by simp
     rw[<- ab];exact r
    ·have g:=kj g;have ab:A++(X.take p++Y.take t)++(X.drop p++Y.drop t)++B=A++X++Y++B:=by
      by_cases o:p<X.length
      ·have:t=0:=by omega
       subst this;simp only[uP,g3,rv,dp];rw[<- dp (X.take p),fP]
      ·have ai:X.drop p= []:=lo bu;have aU:X.take p=X:=iq bu;rw[ai,aU,l1];simp only[dp];rw[<- dp (Y.take t),fP]
     rw[ab];exact f
   rintro _ aa f;have au:(X.take p).Pairwise R:=ao.sublist (pJ _ _);have ar:(X.drop p).Pairwise R:=ao.sublist (Hp _ _);have aw:(Y.take t).Pairwise R:=ap.sublist (pJ _ _);have av:(Y.drop t).Pairwise R:=ap.sublist (Hp _ _);refine⟨λw=>∃D,D.Perm (X.take p++Y.take t)/\D.Pairwise R/\Sep E (bw s 2 (bO cY.vs (A++D++(X.drop p++Y.drop t)++B))::L) w,?_,?_⟩
   ·refine⟨λc w=>c=decide (0<p/\0<t)/\Sep E (bw s 2 (bO cY.vs (A++(X.take p++Y.take t)++(X.drop p++Y.drop t)++B))::L) w,?_,?_⟩
    ·refine cU (λg=>⟨?_,f⟩) (λg=>⟨?_,f⟩)
     ·by_cases o:0<t;·rw[dK bu,dK ⟨bu,o⟩]
      ·rw[dq bu,dq (λz=>o z.2)]
     ·exact(dq (λz=>bu)).symm
    rintro _ c ah ⟨rfl,r⟩;refine cy (λg=>?_) (λg=>?_)
    ·have g:=kA g;have H:A++(X.take p++Y.take t)++(X.drop p++Y.drop t)++B=A++X.take p++Y.take t++((X.drop p++Y.drop t)++B):=by simp
     rw[H]at r;refine use (aP bu bu bu au aw (λx hx y l=>hb x (oo hx) y (oo l)) (by simp only[df];omega) r rfl bu bu) ?_;rintro _ aH ⟨rfl,D,S,ak,I⟩;refine⟨rfl,D,S,ak,?_⟩;rw[dp (A++D)];exact I
    ·have g:=kj g;refine⟨_,.refl _,?_,r⟩;by_cases o:0<p
     ·have:t=0:=by omega
      subst this;simpa using au
     ·have:p=0:=by omega
      subst this;simpa using aw
   rintro _ ah ⟨D,S,aj,r⟩;have a4:D.length=d:=by rw[S.length_eq,df,aQ,aR];omega
   refine⟨λc w=>c=decide (p<X.length/\t<Y.length)/\Sep E (bw s 2 (bO cY.vs (A++D++(X.drop p++Y.drop t)++B))::L) w,?_,?_⟩
   ·refine cU (λg=>⟨?_,r⟩) (λg=>⟨?_,r⟩)
    ·by_cases o:t<Y.length;·rw[dK bu,dK ⟨bu,o⟩]
     ·rw[dq bu,dq (λz=>o z.2)]
    ·exact(dq (λz=>bu)).symm
   rintro _ c aH ⟨rfl,I⟩;refine cy (λg=>?_) (λg=>?_)
   ·have g:=kA g;have H:A++D++(X.drop p++Y.drop t)++B=(A++D)++X.drop p++Y.drop t++B:=by simp
    rw[H]at I;refine use (aP bu bu bu ar av (λx hx y l=>hb x (uE hx) y (uE l)) (by simp only[df];omega) I (by simp only[df];omega) (by simp only[df];omega) (by simp only[df];omega)) ?_;rintro _ a8 ⟨rfl,aT,ak,aC,aV⟩;have:=jV S ak aj aC am;refine⟨rfl,rfl,D++aT,this.1,this.2,?_⟩;rw[<- dp A];exact aV
   ·have g:=kj g;have aO:(X.drop p++Y.drop t).Pairwise R:=by
     by_cases o:p<X.length
     ·have:Y.drop t= []:=lo bu;rw[this,g3];exact ar
     ·have:X.drop p= []:=lo bu;rw[this,l1];exact av
    have:=jV S (.refl _) aj aO am;refine⟨rfl,D++(X.drop p++Y.drop t),this.1,this.2,?_⟩;rw[<- dp A];exact I
end
end Go.Mp.Sh
namespace Go.Mp.Sh
open Go Go.Vc Go.Sp Go.Stab Go.Mp
section
variable{E:Env}{L:cr}{w:bI}{s:Sl}{cmp:bH}{lt:cY->cY->Bool}{R b:cY->cY->Prop}
def fw(b:cY->cY->Prop)(X Y:bA cY):Prop:=∀x∈X,∀y∈Y,b x y
def fw.merge{Ps Qs:bA (bA cY)}{X Y Z:bA cY}(h:(Ps++X::Y::Qs).Pairwise (fw b))(j:Z.Perm (X++Y)):(Ps++Z::Qs).Pairwise (fw b):=by
 have hm:∀z,z∈Z->z∈X\/z∈Y:=λz a=>gb.1 (j.mem_iff.1 a);rw[jE,ht,ht]at h;rw[jE,ht];obtain⟨h1,⟨h2,g,i⟩,d⟩:=h;refine⟨h1,⟨λQ c z a y f=>?_,i⟩,λP' e Q c=>?_⟩
 ·rcases hm z a with a|a;·exact h2 Q (by simp[c]) z a y f
  ·exact g Q c z a y f
 ·rcases eH.1 c with rfl|c
  ·intro x hx z a;rcases hm z a with a|a;·exact d P' e X (by simp) x hx z a
   ·exact d P' e Y (by simp) x hx z a
  ·exact d P' e Q (by simp[c])
def fw.perm{Ps Qs:bA (bA cY)}{X Z:bA cY}(h:(Ps++X::Qs).Pairwise (fw b))(g:Z.Perm X):(Ps++Z::Qs).Pairwise (fw b):=by
 have hm:∀z,z∈Z->z∈X:=λz c=>g.mem_iff.1 c;rw[jE,ht]at h ⊢;obtain⟨h1,⟨h2,f⟩,d⟩:=h;refine⟨h1,⟨λQ a z c y i=>h2 Q a z (hm z c) y i,f⟩,λP' e Q a=>?_⟩;rcases eH.1 a with rfl|a;·intro x hx z c;exact d P' e X (by simp) x hx z (hm z c)
 ·exact d P' e Q (by simp[a])
def fw.split{Ps:bA (bA cY)}{a M2:bA cY}(h:(Ps++[a++M2]).Pairwise (fw b))(c:(a++M2).Pairwise b):(Ps++[a,M2]).Pairwise (fw b):=by
 rw[jE]at h c ⊢;obtain⟨h1,_,f⟩:=h;refine⟨h1,by simpa[fw]using c.2.2,λP' g Q d x hx y e=>?_⟩;have:=f P' g (a++M2) (by simp) x hx y;simp only[eH,uN,uT]at d;rcases d with rfl|rfl;·exact this (by simp[e])
 ·exact this (by simp[e])
def fI(R:cY->cY->Prop)(b:Nat)(a:bA (bA cY)):Prop:=∀F∈a,F.length=b/\F.Pairwise R
def fI.length{b:Nat}:∀ {a:bA (bA cY)},fI R b a->a.flatten.length=b*a.length
 |[],_=>by simp
 |F::a,h=>by
  have h1:=(h F (by simp)).1;have h2:a.flatten.length=b*a.length:=fI.length (λG c=>h G (by simp[c]));rw[uI,df,h1,h2,hN,nB,fY,sI]
def fI.snoc{b:Nat}{c:bA (bA cY)}{F:bA cY}(h:fI R b c)(h1:F.length=b)(h2:F.Pairwise R):fI R b (c++[F]):=by
 intro G a;rcases gb.1 a with a|a;·exact h G a
 ·rw[h9.1 a];exact⟨h1,h2⟩
def E7{l:bA cY}(K:lO R b lt)(ag:l.Pairwise b)(hn:s.n=l.length)(ah:l.length<288230376151711744)(Q:gO E L s cmp lt l.length)(h:Sep E (bw s 2 (bO cY.vs l)::L) w):
  Calls P KE #[Sv s,Iv (s.n:Nat),cmp] w (cC λv w'=>v=.tuple #[]/\∃l',l'.Perm l/\l'.Pairwise R/\Sep E (bw s 2 (bO cY.vs l')::L) w'):=by
 apply Zg;unfold Nx qE qI qO;rw[hn];refine⟨λa e w=>∃c M,a=(20*c.length:Nat)/\e=(20*c.length+20:Nat)/\fI R 20 c/\M.Pairwise b/\(c++[M]).Pairwise (fw b)/\(c.flatten++M).Perm l/\Sep E (bw s 2 (bO cY.vs (c.flatten++M))::L) w,λa _ _=>(l.length-a).toNat,
  ⟨[],l,rfl,rfl,λF i=>(by cases i),ag,by simp,by simp,by simpa using h⟩,?_⟩
 rintro _ a e ar ⟨c,M,rfl,rfl,i,S,p,j,h1⟩;have hlen:=j.length_eq;have k:=i.length;rw[df,k]at hlen;refine ij (λhle=>?_) (λad=>?_)
 ·have m:c.flatten++M=c.flatten++M.take 20++M.drop 20:=by rw[dp,fP]
  have ae:(M.take 20).length=20:=by simp;omega
  have u:=S;rw[<- fP 20 M]at u p;have ab:=fw.split p u;rw[jE]at u;have C:(c.flatten++M.take 20++M.drop 20).length=l.length:=by rw[<- m];exact j.length_eq
  rw[m]at h1;rw[<- hn];refine use (wv K u.1 (by rw[C];exact hn) bu (by rw[C];exact Q) h1 (by rw[k]) (by rw[k,ae];omega)) ?_;rintro _ w2 ⟨rfl,X,G,aa,h2⟩;rw[cX bu bu];have ak:X.length=20:=by rw[G.length_eq,ae]
  refine⟨rfl,⟨c++[X],M.drop 20,by simp;omega,by simp;omega,i.snoc ak aa,u.2.1,?_,?_,?_⟩,by dsimp only;omega⟩
  ·have:=fw.perm (Ps:=c) (Qs:=[M.drop 20]) ab G;simpa using this
  ·refine List.Perm.trans ?_ j;rw[m];simp only[Hf,uI,Bf,g3];exact(G.append_left _).append_right _
  ·simpa using h2
 ·have m:c.flatten++M=c.flatten++M++[]:=by simp
  rw[m]at h1;rw[<- hn];refine use (wv K S (by rw[<- m,j.length_eq];exact hn) (by rw[<- m,j.length_eq];omega) (by rw[<- m,j.length_eq];exact Q) h1 (by rw[k]) (by rw[k];omega)) ?_;rintro _ w2 ⟨rfl,T,W,q,h2⟩;rw[g3]at h2;have aq:=W.length_eq;refine⟨rfl,λz w=>∃(f:Nat) (c:bA (bA cY)) (T:bA cY),z=f/\20<=f/\fI R f c/\T.length<f/\T.Pairwise R/\(c++[T]).Pairwise (fw b)/\(c.flatten++T).Perm l/\Sep E (bw s 2 (bO cY.vs (c.flatten++T))::L) w,λz _=>(l.length-z).toNat,
   ⟨20,c,T,rfl,ec _,i,bu,q,fw.perm p W,(W.append_left _).trans j,h2⟩,?_⟩
  rintro _ z au ⟨f,c,T,rfl,an,i,I,q,p,j,O⟩;have hlen:=j.length_eq;have k:=i.length;rw[df,k]at hlen;refine cU (λap=>?_) (λao=>⟨rfl,_,j,?_,O⟩)
  ·have aj:f<l.length:=by omega
   rw[cX (n:=2*(f:Int)) bu bu];refine⟨λa e w=>∃d c T,a=(2*f*d.length:Nat)/\e=(2*f*d.length+2*f:Nat)/\fI R (2*f) d/\fI R f c/\T.length<f/\T.Pairwise R/\(d++(c++[T])).Pairwise (fw b)/\
     (d.flatten++(c.flatten++T)).Perm l/\Sep E (bw s 2 (bO cY.vs (d.flatten++(c.flatten++T)))::L) w,λa _ _=>(l.length-a).toNat,
    ⟨[],c,T,by simp,by simp,λF i=>(by cases i),i,I,q,by simpa using p,by simpa using j,by simpa using O⟩,?_⟩
   rintro _ a e av ⟨d,c,T,rfl,rfl,V,i,I,q,p,j,x⟩;have hlen:=j.length_eq;have t:=V.length;have k:=i.length;rw[df,df,k,t]at hlen;have hmul:f*c.length<=l.length:=by omega
   have af:2*f*d.length<=l.length:=by omega
   rw[cX (n:=((2*f*d.length:Nat):Int)+f) bu bu];refine ij (λhle=>?_) (λad=>?_)
   ·obtain⟨r,o,g,rfl⟩:∃r o g,c=r::o::g:=by
     match c,hlen with
     |[],hl=>simp at hl;omega
     |[F],hl=>simp at hl;omega
     |r::o::g,_=>exact⟨r,o,g,rfl⟩
    have f1:=i r (by simp);have f2:=i o (by simp);have y:=p;rw[jE]at y;have N:fw b r o:=(ht.1 y.2.1).1 o (by simp);have m:d.flatten++((r::o::g).flatten++T)=d.flatten++r++o++(g.flatten++T):=by simp
    have C:(d.flatten++r++o++(g.flatten++T)).length=l.length:=by rw[<- m];exact j.length_eq
    rw[m]at x;rw[<- hn];refine use (wx K bu hn Q _ (ec _) bu bu f1.2 f2.2 N C x (by rw[t]) (by rw[t,f1.1]) (by rw[t,f1.1,f2.1];omega)) ?_;rintro _ am ⟨rfl,Z,A,J,D⟩;have al:Z.length=2*f:=by rw[A.length_eq,df,f1.1,f2.1];omega
    rw[cX bu bu];refine⟨rfl,⟨d++[Z],g,T,?_,?_,V.snoc al J,λF Y=>i F (by simp[Y]),I,q,?_,?_,?_⟩,?_⟩;·rw[df,mx,nB,fY]
    ·rw[df,mx,nB,fY];omega
    ·have:=fw.merge (Ps:=d) (Qs:=g++[T]) (by simpa using p) A;simpa using this
    ·refine List.Perm.trans ?_ j;rw[m];simp only[Hf,uI,Bf,g3];have:d.flatten++r++o++(g.flatten++T)=d.flatten++(r++o)++(g.flatten++T):=by simp
     rw[this];exact(A.append_left _).append_right _
    ·simpa using D
    ·dsimp only;omega
   ·have fin:∀ {T':bA cY} {w':bI},T'.length<2*f->T'.Pairwise R->T'.Perm (c.flatten++T)->(d++[T']).Pairwise (fw b)->Sep E (bw s 2 (bO cY.vs (d.flatten++T'))::L) w'->
      ((∃(B:Nat) (c:bA (bA cY)) (T:bA cY),i64.wrap ((f:Int)*2)=B/\20<=B/\fI R B c/\T.length<B/\T.Pairwise R/\(c++[T]).Pairwise (fw b)/\(c.flatten++T).Perm l/\Sep E (bw s 2 (bO cY.vs (c.flatten++T))::L) w')/\
       (l.length-i64.wrap ((f:Int)*2)).toNat<(l.length-(f:Int)).toNat):=by
     intro T' w' h1 h2 O x D;rw[cX bu bu];exact⟨⟨2*f,d,T',bu,bu,V,h1,h2,x,(O.append_left _).trans j,D⟩,bu⟩
    rcases c with _|⟨F,_|⟨o,g⟩⟩
    ·refine cU (λU=>?_) (λ_=>?_);·exfalso;simp at hlen;omega
     ·exact fin (T':=T) bu q (by simp) (by simpa using p) (by simpa using x)
    ·have f1:=i F (by simp);simp only[mx,fY]at hlen;refine cU (λU=>?_) (λU=>?_)
     ·have y:=p;rw[jE]at y;have N:fw b F T:=(ht.1 y.2.1).1 T (by simp);have m:d.flatten++([F].flatten++T)=d.flatten++F++T++[]:=by simp
      have C:(d.flatten++F++T++[]).length=l.length:=by rw[<- m];exact j.length_eq
      rw[m]at x;rw[<- hn];refine use (wx K bu hn Q _ (ec _) bu bu f1.2 q N C x (by rw[t]) (by rw[t,f1.1]) (by rw[t,f1.1];omega)) ?_;rintro _ am ⟨rfl,Z,A,J,D⟩;refine⟨rfl,?_⟩;rw[hn];refine fin (T':=Z) (by rw[A.length_eq,df,f1.1];omega) J (by simpa using A) ?_ (by simpa using D);exact fw.merge (Ps:=d) (Qs:=[]) (by simpa using p) A
     ·have H:T= []:=by
       have:T.length=0:=by omega
       exact xo.1 this
      subst H;refine fin (T':=F) bu f1.2 (by simp) ?_ (by simpa using x);have:(d++F::[]::[]).Pairwise (fw b):=by simpa using p
      exact fw.merge (Ps:=d) (Qs:=[]) this (by simp)
    ·exfalso;simp only[hN,nB,fY]at hlen;omega
  ·have ai:l.length<=f:=by omega
   match c,i,k,hlen,p with
   |[],_,_,_,_=>simpa using q
   |[F],i,_,hlen,_=>
    have f1:=i F (by simp);have H:T= []:=by
     have:T.length=0:=by simp at hlen;omega
     exact xo.1 this
    subst H;simpa using f1.2
   |r::o::g,_,_,hlen,_=>
    exfalso;simp only[hN,nB,fY]at hlen;omega
def E8{l:bA cY}(K:lO R b lt)(c:l.Pairwise b)(hn:s.n=l.length)(a:l.length<288230376151711744)(d:gO E L s cmp lt l.length)(h:Sep E (bw s 2 (bO cY.vs l)::L) w):
  Calls P Ko #[Sv s,cmp] w (cC λv w'=>v=.tuple #[]/\∃l',l'.Perm l/\l'.Pairwise R/\Sep E (bw s 2 (bO cY.vs l')::L) w'):=by
 apply YS;unfold Nb qE;refine use (E7 K c hn a d h) ?_;rintro _ e ⟨rfl,h1⟩;exact⟨rfl,rfl,h1⟩
end
end Go.Mp.Sh
namespace Go.Proofs
open Go.Shelf
def Tryz.lS:Go.Shelf.Ren:=⟨fun|15=>188|n=>n,fun|22=>22|3=>3|4=>4|n=>n,fun|n=>n⟩
def Tryz.oa:Go.Proofs.Lays2.n15 Tryz.prog Tryz.lS:={
 mixed:=by kernel_rfl
 f15:=func188.trans (eO some cE)
 t3:=Tryz.underlying3
 a3:=Tryz.isAgg3
 z3:=Tryz.sizeOf3
 v3:=Tryz.zeroValue3
 t4:=Tryz.underlying4
 a4:=Tryz.isAgg4
 z4:=Tryz.sizeOf4
 v4:=Tryz.zeroValue4
 t22:=Tryz.underlying22
 a22:=Tryz.isAgg22
 z22:=Tryz.sizeOf22
 v22:=Tryz.zeroValue22
 i3:=by kernel_rfl}
end Go.Proofs
namespace Go.Mp
open Go Go.Vc Go.Sp
variable{E:Env}{L:cr}{w:bI}
def clear.i{b o n c:Nat}{C:bA bH}{st ty:bZ}{dj m:Nat}{zs:bA bH}(h:Sep E (bD b C::L) w)(l:hG P st=some (dj,m,zs))(D:zs.length=m)(g:∀v∈zs,v.oneCell'=true)(F:o+n*m<=C.length){G:bi9}(k:∀a,Sep E (bD b (iw C o (Builtin.zeroCells zs.toArray n).toList)::L) a->G a):
  ∃a,Sem.run P (Builtin.clear_ #[st] ty #[.slice (some ⟨b,o,none⟩) n c]) w=.ok (.tuple #[]) a/\G a:=by
 obtain⟨e,i,z,t,A,y,p,s,x⟩:=pW l;subst p s x;cases n with
 |zero=>
  refine⟨w,by simp[Builtin.clear_,run_underlying t],k _ ?_⟩;simpa[Builtin.zeroCells,iw]using h
 |succ n=>
  have hl:(Builtin.zeroCells z.cells (n+1)).toList.length=(n+1)*i.size:=by rw[tD,<- D];simp
  have d:=run_storeCells_cells (P:=P) b o (Builtin.zeroCells z.cells (n+1)).toList 0 w (λj B=>h.isSome bu) (λj B=>h.rL bu) (λu hu=>by
   simp only[Builtin.zeroCells,Array.toList_map,fD]at hu;obtain⟨q,l,rfl⟩:=hu;have r:q%z.cells.size<z.cells.size:=by
    refine k4 _ ?_;rcases k3 z.cells.size with f|f;·simp[f]at l
    ·exact f
   have:z.cells[q%z.cells.size]! =z.cells[q%z.cells.size]:=by simp[r]
   rw[this];exact g _ (by simp))
  refine⟨w.setCells b o (Builtin.zeroCells z.cells (n+1)).toList,?_,k _ (by simpa using h.setCells _ _)⟩;simp only[l2]at d;simp[Builtin.clear_,run_underlying t,zeroValue,typeInfo,A,y,d]
def wy(E:Env)(del:bH)(q:Int->Bool)(M:cr)(D:Int->Prop):Prop:=
 ∀x w,D x->Sep E M w->fe P del #[Iv x] w λe w'=>e=.returned (.bool (q x))/\Sep E M w'
def QR{s:Sl}{l:bS}{del:bH}{q:Int->Bool}(z:wy E del q (bw s 1 (bC l)::L) (· ∈l))(hn:s.n=l.length)(hb:l.length<4611686018427387904)(h:Sep E (bw s 1 (bC l)::L) w):
  Calls P DI #[Sv s,del] w (cC λv w'=>∃i:Int,v=Iv i/\((i= -1/\∀x∈l,q x=false)\/(0<=i/\i<l.length/\(∀j x,j<i.toNat->l[j]?=some x->q x=false)/\∀x,l[i.toNat]?=some x->q x=true))/\Sep E (bw s 1 (bC l)::L) w'):=by
 apply YF;unfold M3 qD qO qW;refine⟨λi w=>(0<=i/\i<=l.length)/\(∀j x,j<i.toNat->l[j]?=some x->q x=false)/\Sep E (bw s 1 (bC l)::L) w,λi _=>(l.length-i).toNat,⟨⟨bu,bu⟩,λj x g=>by simp at g,h⟩,?_⟩;rintro _ i B ⟨⟨k,D⟩,a,h1⟩;refine cU (λy=>?_) (λC=>?_)
 ·have o:i<l.length:=by omega
  have hx:l[i.toNat]?=some (l[i.toNat]'bu):=du;refine bw.el 0 h1 rfl k bu (λb hp t=>?_);have f:=t 0 bu;refine⟨l[i.toNat]'bu,f.trans (by simp[hx]),?_⟩;obtain⟨u,ca,p,r,d⟩:=z (l[i.toNat]'bu) B (oT _) h1;refine⟨u,ca,p,r,d.mono ?_⟩;rintro e w2 ⟨rfl,h2⟩;refine⟨_,rfl,cy (λA=>⟨i,rfl,.inr ⟨k,o,a,λx m=>?_⟩,h2⟩) (λhf=>?_)⟩;·rw[hx]at m;rw[<- cV m];exact A
  ·rw[cX bu bu];refine⟨⟨⟨bu,bu⟩,λj x g c=>?_,h2⟩,by show(l.length-(i+1)).toNat<(l.length-i).toNat;omega⟩;by_cases n:j<i.toNat;·exact a j x n c
   ·have:j=i.toNat:=by omega
    subst this;rw[hx]at c;rw[<- cV c];exact hf
 ·refine⟨-1,rfl,.inl ⟨rfl,λx hx=>?_⟩,h1⟩;obtain⟨j,g,rfl⟩:=jn.1 hx;exact a j _ bu (ea g)
def QS{s:Sl}{l:bS}{del:bH}{q:Int->Bool}(T:∀m:bS,m.length=l.length->wy E del q (bw s 1 (bC m)::L) (· ∈l))(hn:s.n=l.length)(hb:l.length<4611686018427387904)(h:Sep E (bw s 1 (bC l)::L) w):
  Calls P Dg #[Sv s,del] w (cC λv w'=>∃s':Sl,v=.slice s'.p s'.n s'.c/\s'.n=(l.filter λx=> !q x).length/\Sep E (bw s' 1 (bC (l.filter λx=> !q x))::L) w'):=by
 apply XY;unfold Mq qD qI qQ qW;refine use (QR (T l rfl) hn hb h) ?_;rintro _ an ⟨i,rfl,X,h1⟩;refine⟨i,rfl,?_⟩;rcases X with⟨rfl,G⟩|⟨af,ag,M,O⟩
 ·have e:l.filter (λx=> !q x)=l:=by
   rw[xw];intro x hx;simp[G x hx]
  refine eC (λ_=>⟨s,rfl,by rw[e];exact hn,by rw[e];exact h1⟩) (λF=>absurd rfl F)
 ·refine eC (λF=>bu) (λ_=>?_);rw[cX bu bu];have u:(l.take i.toNat).filter (λx=> !q x)=l.take i.toNat:=by
   rw[xw];intro x hx;obtain⟨j,Y,rfl⟩:=jn.1 hx;simp only[gT]at Y;have:=M j l[j] bu (du);rw[List.getElem_take];simp[this]
  have I:(l.take (i.toNat+1)).filter (λx=> !q x)=l.take i.toNat:=by
   have J:l[i.toNat]?=some (l[i.toNat]'bu):=du;rw[l0,J,uH,u];simp[O _ J]
  refine⟨λa j w=>(i+1<=j/\j<=l.length)/\∃m:bS,m.length=l.length/\a=((l.take j.toNat).filter λx=> !q x).length/\m.take a.toNat=(l.take j.toNat).filter (λx=> !q x)/\m.drop j.toNat=l.drop j.toNat/\Sep E (bw s 1 (bC m)::L) w,
   λ_ j _=>(l.length-j).toNat,⟨⟨bu,bu⟩,l,rfl,?_,?_,rfl,h1⟩,?_⟩
  ·have k:(i+1).toNat=i.toNat+1:=by omega
   rw[k,I];simp;omega
  ·have k:(i+1).toNat=i.toNat+1:=by omega
   rw[k,I]
  rintro _ a j w2 ⟨⟨ah,ai⟩,m,hm,W,c,p,h2⟩;have N:((l.take j.toNat).filter λx=> !q x).length<=j.toNat:=by
   refine lv (mw _ _) ?_;simp;omega
  refine cU (λZ=>?_) (λae=>?_)
  ·have al:j<l.length:=by omega
   have z:l[j.toNat]?=some (l[j.toNat]'bu):=du;have H:m[j.toNat]?=some (l[j.toNat]'bu):=by
    have:(m.drop j.toNat)[0]?=(l.drop j.toNat)[0]? :=by rw[p]
    simpa[z]using this
   generalize ab:l[j.toNat]'(bu)=v at z H;have V:v∈l:=by rw[<- ab];exact oT _
   refine bw.el 0 h2 rfl bu bu (λb hp B=>?_);have D:=B 0 bu;refine⟨v,D.trans (by simp[H]),?_⟩;obtain⟨F,ca,k,K,C⟩:=T m hm v w2 V h2;refine⟨F,ca,k,K,C.mono ?_⟩;rintro e ao ⟨rfl,r⟩;have d:(j+1).toNat=j.toNat+1:=by omega
   have g:(l.take (j.toNat+1)).filter (λx=> !q x)=(l.take j.toNat).filter (λx=> !q x)++(if q v then[]else[v]):=by
    rw[l0,z,uH];cases n:q v<;>simp[n]
   have o:m.drop (j.toNat+1)=l.drop (j.toNat+1):=by
    rw[<- ru,<- ru,p]
   refine⟨_,rfl,cy (λhf=>?_) (λaa=>?_)⟩
   ·have n:q v=false:=by simpa using hf
    rw[n]at g;refine bw.el 0 r rfl bu bu (λam S _=>?_);refine bw.st r S (by simp;omega) (λt f=>?_);rw[cX bu bu,cX bu bu];refine⟨⟨⟨bu,bu⟩,m.set a.toNat v,by simpa using hm,?_,?_,?_,?_⟩,by show(l.length-(j+1)).toNat<(l.length-j).toNat;omega⟩;·rw[d,g];simp;omega
    ·have k:(a+1).toNat=a.toNat+1:=by omega
     rw[k,d,g,l0,Ul (ec _),c,jm bu];simp
    ·rw[d,Um bu];exact o
    ·have K:(bC m).set (a.toNat*1) (Iv v)=bC (m.set a.toNat v):=by simp[bC,hT]
     rw[K]at f;exact f
   ·have n:q v=true:=by simpa using aa
    rw[n]at g;rw[cX bu bu];refine⟨⟨⟨bu,bu⟩,m,hm,?_,?_,?_,r⟩,by show(l.length-(j+1)).toNat<(l.length-j).toNat;omega⟩;·rw[d,g];simp;omega
    ·rw[d,g];simpa using c
    ·rw[d];exact o
  ·have Q:l.take j.toNat=l:=iq bu;rw[Q]at W c N;have hle:=mw (λx=> !q x) l;obtain⟨b,spare,hp,aj,y,ak,r⟩:=bw.iB h2 bu;refine⟨⟨bu,bu⟩,?_⟩;rw[hp];have U:gA (some ⟨b,0,none⟩) a.toNat s.c 1=some ⟨b,if s.c=a.toNat then 0 else a.toNat,none⟩:=by
    unfold gA;split;·rfl
    ·simp
   rw[U];have fin:∀ {t:bI} {rest:bA bH},rest.length+a.toNat=s.c->Sep E (bD b (bC (l.filter λx=> !q x)++rest)::L) t->(0<=a/\a<=(s.c:Int))/\∃s':Sl,Value.slice (gA (some ⟨b,0,none⟩) 0 s.c 1) (a.toNat-0) (s.c-0)=.slice s'.p s'.n s'.c/\s'.n=(l.filter λx=> !q x).length/\Sep E (bw s' 1 (bC (l.filter λx=> !q x))::L) t:=by
    intro t rest hr f;refine⟨⟨bu,bu⟩,⟨some ⟨b,0,none⟩,a.toNat,s.c⟩,?_,by dsimp only;omega,bw.make f (by simp;omega) (by simp;omega) bu⟩;unfold gA;split<;>simp
   have R:bC m=bC (l.filter λx=> !q x)++(bC m).drop a.toNat:=by
    have:bC (l.filter λx=> !q x)=(bC m).take a.toNat:=by
     rw[<- c];simp[bC,List.map_take]
    rw[this,fP]
   by_cases B:s.c=a.toNat
   ·rw[bK B];have ad:s.n-a.toNat=0:=by omega
    rw[ad];refine clear.i r (dj:=8) (m:=1) (zs:=[Iv 0]) cE rfl (by simp[Value.oneCell']) (by simp) (λt f=>?_);refine fin (rest:=(bC m).drop a.toNat++spare) (by simp at y ⊢;omega) ?_;have e:iw (bC m++spare) 0 (Builtin.zeroCells [Value.int .i64 0].toArray 0).toList=bC (l.filter λx=> !q x)++((bC m).drop a.toNat++spare):=by
     rw[<- dp,<- R];simp[Builtin.zeroCells,iw]
    rw[e]at f;exact f
   ·rw[bJ B];refine clear.i r (dj:=8) (m:=1) (zs:=[Iv 0]) cE rfl (by simp[Value.oneCell']) (by simp;omega) (λt f=>?_);have A:=tD [Value.int .i64 0].toArray (s.n-a.toNat);refine fin (rest:=(Builtin.zeroCells [Value.int .i64 0].toArray (s.n-a.toNat)).toList++spare) (by simp at y A ⊢;omega) ?_;have e:iw (bC m++spare) a.toNat (Builtin.zeroCells [Value.int .i64 0].toArray (s.n-a.toNat)).toList=bC (l.filter λx=> !q x)++((Builtin.zeroCells [Value.int .i64 0].toArray (s.n-a.toNat)).toList++spare):=by
     rw[o7 _ _ _ (by simp at y A ⊢;omega),A];rw[sy (by simp;omega),Ut];have k:(bC m).take a.toNat=bC (l.filter λx=> !q x):=by rw[<- c];simp[bC,List.map_take]
     rw[k,lo (by simp;omega)];simp only[l1,dp];congr 2;have:a.toNat+(s.n-a.toNat)* [Value.int i64 0].toArray.size-(bC m).length=0:=by simp;omega
     rw[this,rv]
    rw[e]at f;exact f
end Go.Mp
namespace Go.Mp
open Go Go.Vc Go.Sp Go.Proofs Go.Kc
variable{E:Env}{L:cr}{w:bI}
def QT{s:Sl}{l:bS}{q:Nat}(h:Sep E L w)(m:L[q]?=some (bw s 1 (bC l)))(hn:s.n=l.length)(hb:l.length<=1000000):
  Calls P vI #[.slice s.p s.n s.c] w (cC λv w'=>∃s':Sl,v=.slice s'.p s'.n s'.c/\s'.n=l.length/\Sep E (bw s' 1 (bC l)::L) w'):=by
 have b:=h.fr q m;unfold bw at b;cases hp:s.p with
 |none=>
  rw[hp]at b;obtain⟨⟨_,_,hl⟩,_⟩:=Sep.cL.1 b;have hl:l= []:=List.map_eq_nil_iff.1 hl;subst hl;refine(Any.slices_Clone_int_nil Tryz.oa s.n s.c w).mono ?_;rintro e o ⟨rfl,rfl⟩;exact⟨_,rfl,⟨none,0,0⟩,rfl,rfl,bw.none_ h⟩
 |some a=>
  rw[hp]at b;obtain⟨spare,b⟩:=Sep.ex.1 b;obtain⟨⟨ho,n,hl,_,_⟩,b⟩:=Sep.cL.1 b;obtain⟨f,r,t⟩:=a;cases ho;cases n;have k:∀j,j<l.length->w.cell? ⟨f,0+j,none⟩=some (.int .i64 (l.getD j 0)):=by
   intro j g;rw[fz,bw.cell b (by simpa using g)];simp[List.getD,ea g]
  refine(Any.slices_Clone_int Tryz.oa f 0 s.n s.c l w bu bu k).mono ?_;rintro e o ⟨v,rfl,c,p,d⟩;rw[hn,fB]at c;obtain⟨s',rfl,i,h1⟩:=Eu h c d;exact⟨_,rfl,s',rfl,i,h1⟩
def aIj{x y:Nat}(hx:x<4294967296)(d:x*y<18446744073709551616)(k:y<18446744073709551616)(w:bI):Calls P y1 #[.int .u64 (x:Nat),.int .u64 (y:Nat)] w (cC λv w'=>v=.tuple #[.int .u64 0,.int .u64 ((x*y:Nat):Int)]/\w'=w):=by
 apply Nv;unfold Ei;have i:(x:Int).fdiv (2^(min (32:Int).toNat 64))=((0:Nat):Int):=by
  rw[show(x:Int).fdiv (2^(min (32:Int).toNat 64))=((x/2^32:Nat):Int)from sh x 32,Bh bu]
 have c:∀z:Nat,(z:Int).fdiv (2^(min (32:Int).toNat 64))=((z/4294967296:Nat):Int):=λz=>sh z 32;have m:∀ {z:Nat},z<18446744073709551616->dy .u64 (z:Int) 4294967295=((z%4294967296:Nat):Int):=by
  intro z f;have h:=tA (a:=z) (b:=4294967295) f bu;have e:z &&& 4294967295=z%4294967296:=uB z 32;rw[e]at h;exact h
 have f:x*y=x*(y%4294967296)+x*(y/4294967296)*4294967296:=by
  conv=>lhs;rw[<- Nat.mod_add_div y 4294967296]
  rw[nB,xG 4294967296,HD]
 rw[i,c y,m (z:=x) bu,m k,mZ hx];have g:∀a:Int,((0:Nat):Int)*a=((0:Nat):Int):=λa=>by simp
 rw[g,g,dA (n:=0) bu,<- uO,<- uO,<- uO];generalize x*(y%4294967296)=p at*
 generalize x*(y/4294967296)=r at*
 have j:p/4294967296+r<4294967296:=by omega
 rw[dA (n:=p) bu,c p];rw[show((0:Nat):Int)+((p/4294967296:Nat):Int)=((p/4294967296:Nat):Int) by omega,dA (n:=p/4294967296) bu];rw[m bu,dA (n:=r) bu,mZ (a:=p/4294967296) bu,<- Hv,dA (n:=p/4294967296+r) bu,c,c,Bh j,Bh (a:=p/4294967296) bu,dA d];refine⟨bN,bN,bN,bN,bN,?_,rfl⟩;simp[nX]
def Am{l:bS}{k:Nat}{x:Int}(hx:l[k]?=some x):cp (l.take (k+1))=cp (l.take k)+x:=by
 rw[take_succ hx];simp[cp,Be]
def E9{l:bS}(hl:∀x∈l,0<=x/\x<=top):∀k,k<=l.length->0<=cp (l.take k)/\cp (l.take k)<=k*1099511627776
 |0,_=>by simp[cp]
 |k+1,h=>by
  have hx:l[k]?=some (l[k]'bu):=du;have h1:=E9 hl k bu;have h2:=hl _ (oT (by omega:k<l.length));rw[Am hx];rw[oF]at h2;omega
def Fa{s:Sl}{l:bS}(a:Ints E L s l)(hl:∀x∈l,0<=x/\x<=top)(hb:l.length<=64)(h:Sep E L w):
  Calls P vJ #[.slice s.p s.n s.c] w (cZ E (.int .i64 (cp l)) L):=by
 apply Yh;unfold ME qD qI qW;refine⟨λn i w'=>(∃k:Nat,i=k/\k<=l.length/\n=cp (l.take k))/\Sep E L w',λ_ i _=>(l.length-i).toNat,⟨⟨0,rfl,dX _,rfl⟩,h⟩,?_⟩;rintro _ n i d ⟨⟨k,rfl,hk,rfl⟩,h1⟩;have hn:=a.1;refine cU (λc=>?_) (λb=>?_)
 ·have hx:l[k]?=some (l[k]'bu):=du;refine a.el h1 k rfl hx ?_;have h2:=E9 hl (k+1) bu;have e:=Am hx;rw[c4,cX bu bu];exact⟨⟨⟨k+1,rfl,bu,e.symm⟩,h1⟩,by show(((l.length:Nat):Int)-((k+1:Nat):Int)).toNat<(((l.length:Nat):Int)-(k:Int)).toNat;omega⟩
 ·have:k=l.length:=by omega
  subst this;rw[fB];exact⟨rfl,h1⟩
def aIt(x:Int)(w:bI):Calls P DM #[.int .i64 x] w (cC λv w'=>v=.bool (!(decide (0<=x)&&decide (x<=top)))/\w'=w):=by
 apply YQ;unfold M9;have:=oF;refine cU (λc=>⟨?_,rfl⟩) (λb=>⟨?_,rfl⟩);·rw[dq (show ¬ 0<=x by omega)];rfl
 ·rw[dK (show 0<=x by omega),oF];by_cases a:x>1099511627776;·rw[dK a,dq (show ¬ x<=1099511627776 by omega)];rfl
  ·rw[dq a,dK (show x<=1099511627776 by omega)];rfl
def QU{s:Sl}{l:bS}{n:Int}(hn:s.n=l.length)(h:Sep E (bw s 1 (bC l)::L) w):
  Calls P Ds #[.int .i64 n,.slice s.p s.n s.c] w (cZ E (.bool (iG n l)) (bw s 1 (bC l)::L)):=by
 apply Yg;unfold MD qF iG;refine ij (λh1=>?_) (λh1=>?_);rotate_left;·rw[dq (show ¬ 0<=n by omega)];exact⟨by simp,h⟩
 rw[dK h1];refine ij (λh2=>?_) (λh2=>?_);rotate_left;·rw[dq (show ¬ n<=1048576 by omega)];exact⟨by simp,h⟩
 rw[dK h2];refine ij (λc=>?_) (λc=>?_);rotate_left;·rw[dq (show ¬ l.length<=64 by omega)];exact⟨by simp,h⟩
 rw[dK (show l.length<=64 by omega)];refine use (K:=λv w'=>v=.bool (!(l.all λx=>decide (0<=x)&&decide (x<=top)))/\Sep E (bw s 1 (bC l)::L) w') ?_ ?_
 ·apply YR;unfold Na qQ;refine use (QR (q:=λx=> !(decide (0<=x)&&decide (x<=top))) ?_ hn bu h) ?_
  ·intro x b _ h1;refine⟨DM,_,rfl,by kernel_rfl,(aIt x b).mono ?_⟩;rintro e w2 ⟨v,rfl,rfl,rfl⟩;exact⟨rfl,h1⟩
  ·rintro _ b ⟨i,rfl,a,h1⟩;refine⟨i,rfl,?_,h1⟩;rcases a with⟨rfl,a⟩|⟨g,f,_,a⟩
   ·have:(l.all λx=>decide (0<=x)&&decide (x<=top))=true:=fM.2 λx hx=>by simpa using a x hx
    rw[this];rfl
   ·have hx:l[i.toNat]?=some (l[i.toNat]'bu):=du;have d:=a _ hx;have:(l.all λx=>decide (0<=x)&&decide (x<=top))=false:=by
     rw[List.all_eq_false];exact⟨_,oT (show i.toNat<l.length by omega),by
      have j:l[i.toNat]<0\/top<l[i.toNat]:=by simpa using d
      simp;omega⟩
    rw[this,dK (show i≥0 by omega)];rfl
 ·rintro _ b ⟨rfl,h1⟩;exact⟨_,rfl,by simp,h1⟩
end Go.Mp
namespace Go.Kc
def QV{α:Type}{r:α->α->Bool}(vj:∀x,r x x=false)(asym:∀x y,r x y=true->r y x=false):∀ {l:bA α} {j:Nat} {x:α},l.Pairwise (λa b=>r a b=true)->l[j]?=some x->(l.filter λy=>r y x).length=j
 |[],j,x,_,hx=>by simp at hx
 |a::l,0,x,h,hx=>by
  have e:a=x:=by simpa using hx
  subst e;have h':=ht.1 h;have:(a::l).filter (λy=>r y a)= []:=by
   rw[List.filter_eq_nil_iff];intro y d;rcases eH.1 d with rfl|d;·rw[vj];decide
   ·rw[asym _ _ (h'.1 y d)];decide
  rw[this];rfl
 |a::l,j+1,x,h,hx=>by
  have h':=ht.1 h;have c:l[j]?=some x:=by simpa using hx
  have hm:x∈l:=eG c;rw[jR,bK (h'.1 x hm),hN,QV vj asym h'.2 c]
def rB(a b:Int×Nat):Bool:=decide (b.1<a.1)||(decide (a.1=b.1)&&decide (a.2<b.2))
def q0{a b:Int×Nat}:rB a b=true↔(b.1<a.1\/(a.1=b.1/\a.2<b.2)):=by simp[rB]
def aLO(x:Int×Nat):rB x x=false:=by
 rw[uK];intro h;have:=q0.1 h;omega
def QW(x y:Int×Nat)(h:rB x y=true):rB y x=false:=by
 rw[uK];intro h';have h1:=q0.1 h;have h2:=q0.1 h';omega
def aux{rs:bS}{p:Int×Nat}:p∈rs.zipIdx↔rs[p.2]?=some p.1:=by
 obtain⟨a,i⟩:=p;rw[List.mem_zipIdx_iff_getElem?]
variable{rs:bS}{S:bA (Int×Nat)}
def QX(hp:S.Perm rs.zipIdx)(c:S.Pairwise λa b=>rB a b=true){j:Nat}{x:Int×Nat}(hx:S[j]?=some x):ahead rs x.2 x.1=j:=by
 have h1:=QV aLO QW c hx;rw[<- h1];exact((hp.filter _).length_eq).symm
def aId(hp:S.Perm rs.zipIdx)(e:S.Pairwise λa b=>rB a b=true){i m:Nat}{r:Int}(hr:rs[i]?=some r):ahead rs i r<m↔i∈(S.take m).map (·.2):=by
 constructor
 ·intro h;have h1:(r,i)∈S:=hp.mem_iff.2 (aux.2 hr);obtain⟨j,c⟩:=rk.1 h1;have h2:=QX hp e c;refine fD.2 ⟨(r,i),rk.2 ⟨j,?_⟩,rfl⟩;rw[pI,bK (by simpa[h2]using h)];exact c
 ·intro h;obtain⟨⟨r',l⟩,h1,rfl⟩:=fD.1 h;obtain⟨j,c⟩:=rk.1 h1;rw[pI]at c;split at c
  ·next n=>
   have f:(r',l)∈rs.zipIdx:=hp.mem_iff.1 (eG c);have d:=aux.1 f;simp only at d hr;have g:=hr.symm.trans d;have k:r=r':=by simpa using g
   subst k;have:=QX hp e c;simp only at this ⊢;omega
  ·cases c
def QY:(rs.zipIdx.map (·.2)).Nodup:=by
 rw[List.zipIdx_map_snd];exact List.nodup_range'
def QZ(hp:S.Perm rs.zipIdx)(m:Nat):((S.take m).map (·.2)).Nodup:=by
 have h:(S.map (·.2)).Nodup:=(hp.map _).nodup_iff.2 QY;rw[List.map_take];exact h.sublist (pJ _ _)
def aK8(hp:S.Perm rs.zipIdx){m:Nat}:∀i∈(S.take m).map (·.2),i<rs.length:=by
 intro i a;obtain⟨⟨r,i⟩,h1,rfl⟩:=fD.1 a;have:=aux.1 (hp.mem_iff.1 (oo h1));exact(c2.1 this).1
def aHi(rs:bS):∃S:bA (Int×Nat),S.Perm rs.zipIdx/\S.Pairwise λa b=>rB a b=true:=by
 refine⟨rs.zipIdx.mergeSort (λa b=> !rB b a),Bb _ _,?_⟩;have h1:(rs.zipIdx.mergeSort (λa b=> !rB b a)).Pairwise (λa b=>(!rB b a)=true):=by
  apply List.pairwise_mergeSort
  ·intro a b c e f;rw[ir]at*
   rw[uK]at*
   intro h;apply e;rw[q0]at*
   by_cases j:b.1<c.1\/(c.1=b.1/\c.2<b.2);·exact absurd (by rw[q0];omega) f
   ·omega
  ·intro a b;rw[jS,ir,ir];rcases hb:rB b a with _|_;·exact .inl rfl
   ·exact .inr (QW _ _ hb)
 have h2:(rs.zipIdx.mergeSort (λa b=> !rB b a)).Pairwise (λa b=>a.2≠b.2):=by
  have:=((Bb rs.zipIdx (λa b=> !rB b a)).map (·.2)).nodup_iff.2 QY;exact kk.1 this
 refine(h1.and h2).imp ?_;rintro a b ⟨d,g⟩;rw[ir,uK]at d;rw[q0];have i:¬ (a.1<b.1\/(b.1=a.1/\b.2<a.2)):=λh=>d (q0.2 h);omega
def lh:bS->bA Nat->bS
 |out,[]=>out
 |out,a::r=>lh (out.set a (out.getD a 0+1)) r
def Fb:∀(b:bA Nat) (out:bS),(lh out b).length=out.length
 |[],_=>rfl
 |a::r,out=>by rw[lh,Fb r];simp
def Q0:∀(c:bA Nat) (out:bS) (a:Nat),lh out (c++[a])=(lh out c).set a ((lh out c).getD a 0+1)
 |[],out,a=>rfl
 |b::r,out,a=>by rw[pK,lh,lh,Q0 r]
def Ao:∀(b:bA Nat) (out:bS) (i:Nat) (x:Int),b.Nodup->out[i]?=some x->(lh out b)[i]?=some (x+if i∈b then 1 else 0)
 |[],out,i,x,_,hx=>by simp[lh,hx]
 |a::r,out,i,x,hn,hx=>by
  have c:=rq.1 hn;have d:i<out.length:=(c2.1 hx).1;rw[lh];by_cases e:a=i
  ·subst e;have h1:(out.set a (out.getD a 0+1))[a]?=some (x+1):=by
    rw[jm d,dC,hx];rfl
   rw[Ao r _ _ _ c.2 h1,bJ c.1,bK (by simp)];simp
  ·have h1:(out.set a (out.getD a 0+1))[i]?=some x:=by rw[iM e];exact hx
   rw[Ao r _ _ _ c.2 h1];have:(i∈a::r)↔i∈r:=by rw[eH];exact⟨λh=>h.resolve_left (λh=>e h.symm),.inr⟩
   simp only[this]
def mP(x:Int)(l:bS):cp (x::l)=x+cp l:=by
 have h:∀(l:bS) (a b:Int),l.foldl (· + ·) (a+b)=a+l.foldl (· + ·) b:=by
  intro l;induction l with
  |nil=>intro a b;rfl
  |cons y l c=>intro a b;rw[Hs,Hs,HE,c]
 unfold cp;rw[Hs,Int.add_comm,h]
def sc:cp []=0:=rfl
def Q1:∀ {l:bS} {i:Nat},i<l.length->cp (l.set i (l.getD i 0+1))=cp l+1
 |x::l,0,_=>by simp[mP];omega
 |x::l,i+1,h=>by
  have:=Q1 (l:=l) (i:=i) (by simpa using h);simp only[Up,List.getD_cons_succ,mP,this];omega
def Q2:∀(b:bA Nat) (out:bS),(∀i∈b,i<out.length)->cp (lh out b)=cp out+b.length
 |[],out,_=>by simp[lh]
 |a::r,out,h=>by
  rw[lh,Q2 r _ (by intro i c;simpa using h i (gn _ c)),Q1 (h a (by simp))];simp;omega
end Go.Kc
namespace Go.Kc
def h4(n:Int)(ws:bS):bS:=ws.map λw=>n*w/cp ws
def gG(n:Int)(ws:bS):bS:=ws.map λw=>n*w%cp ws
def jk(n:Int)(ws:bS):Int:=n-cp (h4 n ws)
def Q3{n:Int}{ws:bS}(hr:iG n ws=true)(a:cp ws≠0):
  jj n ws=ws.zipIdx.map λp:Int×Nat=>n*p.1/cp ws+if(ahead (gG n ws) p.2 (n*p.1%cp ws):Int)<jk n ws then 1 else 0:=by
 unfold jj;rw[bJ (by rw[hr];decide),bJ a];rfl
def Fc:∀(a b:bS),cp (a++b)=cp a+cp b
 |[],b=>by simp[sc]
 |x::a,b=>by rw[pK,mP,mP,Fc a b];omega
def Q4(n:Int):∀ws:bS,cp (ws.map (n* ·))=n*cp ws
 |[]=>by simp[sc]
 |w::ws=>by rw[kB,mP,mP,Q4 n ws,Int.mul_add]
def Q5(m:Int)(f:Int->Int):∀ws:bS,cp (ws.map f)=m*cp (ws.map λw=>f w/m)+cp (ws.map λw=>f w%m)
 |[]=>by simp[sc]
 |w::ws=>by
  rw[kB,kB,kB,mP,mP,mP,Q5 m f ws,Int.mul_add];have:=Int.mul_ediv_add_emod (f w) m;omega
def oG:∀ {l:bS},(∀x∈l,0<=x)->0<=cp l
 |[],_=>by simp[sc]
 |x::l,h=>by
  rw[mP];have:=h x (by simp);have:=oG (l:=l) (λy a=>h y (gn _ a));omega
def Q6{m:Int}:∀ {l:bS},(∀x∈l,0<=x/\x<=m)->cp l<=m*(l.countP λx=>decide (0<x))
 |[],_=>by simp[sc]
 |x::l,h=>by
  rw[mP,xA];have h1:=h x (by simp);have h2:=Q6 (l:=l) (λy a=>h y (gn _ a));by_cases hx:0<x;·rw[bK (by simpa using hx),Hv,Int.mul_add];omega
  ·rw[bJ (by simpa using hx)];simp;omega
def aJj{l:bS}(h:∀x∈l,0<=x){x:Int}(hx:x∈l):x<=cp l:=by
 induction l with
 |nil=>cases hx
 |cons y l b=>
  rw[mP];have h1:=h y (by simp);have h2:=oG (l:=l) (λz a=>h z (gn _ a));rcases eH.1 hx with rfl|hx;·omega
  ·have:=b (λz a=>h z (gn _ a)) hx;omega
def tY{n:Int}{ws:bS}(h:iG n ws=true):(0<=n/\n<=1048576)/\ws.length<=64/\∀w∈ws,0<=w/\w<=top:=by
 simpa[iG,and_assoc]using h
variable{n:Int}{ws:bS}
def aIT:cp ws*jk n ws=cp (gG n ws):=by
 have h:=Q5 (cp ws) (n* ·) ws;rw[Q4]at h;unfold jk h4 gG;rw[Int.mul_sub,Int.mul_comm _ n];omega
def Fe(a:0<cp ws):∀x∈gG n ws,0<=x/\x<cp ws:=by
 intro x hx;obtain⟨w,_,rfl⟩:=fD.1 hx;exact⟨Hx _ bu,Int.emod_lt_of_pos _ a⟩
def tZ(a:0<cp ws):0<=jk n ws/\jk n ws<=(gG n ws).countP (λx=>decide (0<x)):=by
 have h1:=aIT (n:=n) (ws:=ws);have h2:=oG (l:=gG n ws) (λx hx=>(Fe a x hx).1);have b:=Q6 (m:=cp ws) (l:=gG n ws) (λx hx=>⟨(Fe a x hx).1,Int.le_of_lt (Fe a x hx).2⟩);rw[<- h1]at h2 b;exact⟨Int.nonneg_of_mul_nonneg_right h2 a,Int.le_of_mul_le_mul_left b a⟩
def Q7(a:0<cp ws):jk n ws<=ws.length:=by
 have h1:=(tZ (n:=n) a).2;have h2:=Ba (p:=λx=>decide (0<x)) (l:=gG n ws);have b:(gG n ws).length=ws.length:=by simp[gG]
 omega
def aFJ(a:0<cp ws){i:Nat}{r:Int}(hr:(gG n ws)[i]?=some r)(b:(ahead (gG n ws) i r:Int)<jk n ws):0<r:=by
 refine sA λhn=>?_;have h1:=(tZ (n:=n) a).2;have h2:((gG n ws).countP λx=>decide (0<x))<=ahead (gG n ws) i r:=by
  have e:(gG n ws).countP (λx=>decide (0<x))=(gG n ws).zipIdx.countP (λp=>decide (0<p.1)):=by
   conv=>lhs;rw[<- List.zipIdx_map_fst 0 (gG n ws)]
   rw[List.countP_map];rfl
  unfold ahead;rw[e,<- List.countP_eq_length_filter];refine List.countP_mono_left λp _ hp=>?_;have:0<p.1:=by simpa using hp
  rw[jS];exact .inl (by simp;omega)
 omega
def Q8(hr:iG n ws=true)(a:cp ws≠0){i:Nat}{w:Int}(hw:ws[i]?=some w):(jj n ws)[i]?=some (n*w/cp ws+if(ahead (gG n ws) i (n*w%cp ws):Int)<jk n ws then 1 else 0):=by
 rw[Q3 hr a,ez,List.getElem?_zipIdx,hw];simp
def q1(hr:iG n ws=true):(jj n ws).length=ws.length:=by
 by_cases a:cp ws=0;·unfold jj;rw[bJ (by rw[hr];decide),bK a];simp
 ·rw[Q3 hr a];simp
def Q9(hr:iG n ws=true)(c:0<cp ws){S:bA (Int×Nat)}(hp:S.Perm (gG n ws).zipIdx)(f:S.Pairwise λa b=>rB a b=true):
  jj n ws=lh (h4 n ws) ((S.take (jk n ws).toNat).map (·.2)):=by
 apply gJ;intro i;cases hw:ws[i]? with
 |none=>
  have:ws.length<=i:=G1.1 hw;rw[gI (by rw[q1 hr];exact this),gI (by rw[Fb];simpa[h4]using this)]
 |some w=>
  have h1:(h4 n ws)[i]?=some (n*w/cp ws):=by simp[h4,hw]
  have h2:(gG n ws)[i]?=some (n*w%cp ws):=by simp[gG,hw]
  rw[Q8 hr bu hw,Ao _ _ _ _ (QZ hp _) h1];have d:=aId hp f (m:=(jk n ws).toNat) h2;have g:=(tZ (n:=n) c).1;have e:(ahead (gG n ws) i (n*w%cp ws):Int)<jk n ws↔i∈(S.take (jk n ws).toNat).map (·.2):=by rw[<- d];omega
  simp only[e]
def aE7(hr:iG n ws=true)(a:0<cp ws):cp (jj n ws)=n:=by
 obtain⟨S,hp,d⟩:=aHi (gG n ws);rw[Q9 hr a hp d,Q2 _ _ (λi c=>by simpa[h4,gG]using aK8 hp i c)];have h1:=Q7 (n:=n) a;have h2:=(tZ (n:=n) a).1;have b:S.length=ws.length:=by rw[hp.length_eq];simp[gG]
 rw[dY,gT,b];have:jk n ws=n-cp (h4 n ws):=rfl;omega
def Ff(hr:iG n ws=true)(c:0<cp ws){i:Nat}{w:Int}(hw:ws[i]?=some w):∃x,(jj n ws)[i]?=some x/\0<=x/\(n<=cp ws->x<=w)/\(cp ws<=n->w<=x):=by
 obtain⟨⟨g,o⟩,hl,f⟩:=tY hr;have a:=f w (eG hw);have h2:(gG n ws)[i]?=some (n*w%cp ws):=by simp[gG,hw]
 refine⟨_,Q8 hr bu hw,?_⟩;have h:=Int.mul_ediv_add_emod (n*w) (cp ws);have p:=Hx (n*w) (b:=cp ws) bu;have j:=aFJ (n:=n) c h2;have q:0<=n*w/cp ws:=Bj (Bk g a.1) bu;refine⟨?_,λhle=>?_,λhle=>?_⟩;·split<;>omega
 ·have d:n*w<=cp ws*w:=GZ hle a.1;have k:n*w/cp ws<=w:=Int.ediv_le_of_le_mul c (by rw[Int.mul_comm w];exact d);split
  ·next l=>
   have r:=j l;have m:n*w/cp ws<w:=by
    refine sA λs=>?_;have e:n*w/cp ws=w:=by omega
    rw[e]at h;omega
   omega
  ·omega
 ·have d:cp ws*w<=n*w:=GZ hle a.1;have k:w<=n*w/cp ws:=(Int.le_ediv_iff_mul_le c).2 (by rw[Int.mul_comm w];exact d);split<;>omega
end Go.Kc
namespace Go.Mp
open Go Go.Vc Go.Sp Go.Proofs Go.Kc Go.Mp.Sh
variable{E:Env}{L:cr}{w:bI}
def Ra(x:Int)(w:bI):Calls P DV #[.int .u64 x] w (cC λv w'=>v=.bool false/\w'=w):=by
 apply Zh;exact⟨by simp,rfl⟩
def aEA(x y:Int)(w:bI):Calls P Kp #[.int .u64 x,.int .u64 y] w (cC λv w'=>∃r:Int,v=Iv r/\decide (r<0)=decide (x<y)/\w'=w):=by
 apply YU;unfold Nd qF;refine use (Ra x w) ?_;rintro _ _ ⟨rfl,rfl⟩;refine⟨_,rfl,use (Ra y _) ?_⟩;rintro _ _ ⟨rfl,rfl⟩;refine⟨_,rfl,dQ (dQ (cU (λh=>⟨-1,rfl,by simp[h],rfl⟩) (λh=>gv (λh2=>⟨1,rfl,?_,rfl⟩) (λh2=>⟨0,rfl,?_,rfl⟩))))⟩;·rw[dq (show ¬ x<y by omega)];rfl
 ·rw[dq (show ¬ x<y by omega)];rfl
def wz(a b:cY):Prop:=b.low<a.low\/(a.low=b.low/\a.at_<b.at_)
def Ap(a b:cY):Bool:=decide (b.low<a.low)
def aK7:Sh.lO wz (λa b=>a.at_<b.at_) Ap:=by
 refine⟨⟨λx y z h1 h2=>?_,λx h=>?_,λx y h=>?_⟩,λx y h e=>?_,λx y h=>?_⟩;·unfold wz at *;omega
 ·unfold wz at h;omega
 ·unfold wz;obtain⟨a,b⟩:=x;obtain⟨c,d⟩:=y;have:¬ (a=c/\b=d):=λ⟨h1,h2⟩=>h (by rw[h1,h2]);simp only;omega
 ·rw[e]at h;exact absurd h (HF _)
 ·unfold Ap wz;have h:x.at_<y.at_:=h;rw[decide_eq_true_iff];omega
def ua(p:Int×Nat):cY:=⟨p.2,p.1⟩
def q3(x:cY):Int×Nat:=(x.low,x.at_.toNat)
def Rb(p:Int×Nat):q3 (ua p)=p:=by simp[q3,ua]
def aIm(x y:cY)(h:Sep E L w):Calls P DN #[.agg #[Iv x.at_,.int .u64 x.low],.agg #[Iv y.at_,.int .u64 y.low]] w (cC λv w'=>∃r:Int,v=Iv r/\decide (r<0)=Ap x y/\Sep E L w'):=by
 apply YT;unfold Nc qQ;refine Al.i h (λa c h1=>Al.i h1 (λb w2 h2=>?_));have h2:Sep E (bD b [Iv y.at_,.int .u64 y.low]::bD a [Iv x.at_,.int .u64 x.low]::L) w2:=h2;refine ld h2 0 rfl rfl rfl (ld h2 1 rfl rfl rfl (use (aEA _ _ w2) ?_));rintro _ d ⟨r,rfl,hr,rfl⟩;exact⟨r,rfl,r,rfl,hr,h2.tail.tail⟩
def aEU(n:Nat)(l:bS)(hl:l.length=n):l.map (λ_=>(0:Int))=List.replicate n 0:=by
 rw[<- hl];simp[List.map_const']
def Rc:hG P yr=some (16,2,[Iv 0,.int .u64 0]):=by kernel_rfl
def aG4{s:Sl}{q:Nat}{l:bA cY}{x:cY}(hn:s.n=l.length)(hb:l.length<100000000)(h:Sep E (bD q x.vs::bw s 2 (bO cY.vs l)::L) w){G:Sl->bi9}(g:∀s' a,s'.n=l.length+1->Sep E (bw s' 2 (bO cY.vs (l++[x]))::L) a->G s' a):
  ∃d:Sl,∃a,Sem.run P (Builtin.append_ #[yr,yr] yr #[Sv s,.slice (some ⟨q,0,none⟩) 1 1]) w=.ok (Sv d) a/\G d a:=by
 have e:=Src.bD (n:=1) (c:=1) h (i:=0) rfl Rc rfl (λu hu=>by simp[cY.vs]at hu;rcases hu with rfl|rfl<;>rfl);refine bw.append h.swap Rc rfl e bu (by rw[hn];omega) (λs' a b h1=>?_);refine g s' a (by rw[b,hn]) ?_;rw[nm,ph];exact(h1.fr 0 rfl).ro 2 [0] rfl
def aJ9{s:Sl}{l:bS}{n:Int}(hn:s.n=l.length)(h:Sep E (bw s 1 (bC l)::L) w)(bd:l.length<1000000):
  Calls P yV #[Iv n,Sv s] w (cC λv w'=>∃e:Sl,v=Sv e/\e.n=(jj n l).length/\Sep E (bw e 1 (bC (jj n l))::bw s 1 (bC l)::L) w'):=by
 apply Yi;unfold MF qD qE qF qL qO qQ qU qW zM zN zT;dsimp only;refine use (QU hn h) ?_;rintro _ bn ⟨rfl,h1⟩;refine⟨_,rfl,?_⟩;cases hr:iG n l with
 |false=>
  have e:jj n l= []:=by unfold jj;rw[bK hr]
  rw[e];exact bT rfl ⟨⟨none,0,0⟩,rfl,rfl,bw.none_ h1⟩
 |true=>
  refine bF rfl ?_;obtain⟨⟨am,bg⟩,hl,c⟩:=tY hr;refine r9 (n:=s.n) bu h1 (λI w2 u h2=>?_);rw[hn]at u h2;refine use (Fa (Ints.at_ (q:=1) rfl hn) c hl h2) ?_;rintro _ bo ⟨rfl,ag⟩;refine⟨_,rfl,eC (λe0=>?_) (λbh=>?_)⟩
  ·have e:jj n l=List.replicate l.length 0:=by unfold jj;rw[bJ (by rw[hr];decide),bK e0];exact aEU _ _ rfl
   rw[e];exact⟨I,rfl,by simpa using u,ag⟩
  have Z:0<cp l:=by have:=oG (l:=l) (λx hx=>(c x hx).1);omega
  have a9:cp l<=64*1099511627776:=by
   have:=(E9 c l.length (ec _)).2;rw[fB]at this;omega
  have M:(h4 n l).length=l.length:=by simp[h4]
  have af:(gG n l).length=l.length:=by simp[gG]
  let g:Nat->bA cY:=λk=>((gG n l).zipIdx.take k).map ua;have d:∀k,k<=l.length->(g k).length=k:=λk hk=>by simp[g,af,hk]
  refine⟨λrs left i w'=>∃k:Nat,i=k/\k<=l.length/\left=n-cp ((h4 n l).take k)/\rs.n=k/\Sep E (bw rs 2 (bO cY.vs (g k))::bw I 1 (bC ((h4 n l).take k++List.replicate (l.length-k) 0))::bw s 1 (bC l)::L) w',
   λ_ _ i _=>(l.length-i).toNat,⟨0,rfl,dX _,by simp[sc],rfl,bw.none_ (by simpa using ag)⟩,?_⟩
  rintro _ rs _ _ aQ ⟨k,rfl,hk,rfl,an,O⟩;obtain⟨J,t⟩:∃f:Nat->bS,f= λk=>(h4 n l).take k++List.replicate (l.length-k) 0:=⟨_,rfl⟩
  have O:Sep E (bw rs 2 (bO cY.vs (g k))::bw I 1 (bC (J k))::bw s 1 (bC l)::L) aQ:=by rw[t];exact O
  have Y:∀k,k<=l.length->(J k).length=l.length:=λk hk=>by simp[t,M];omega
  refine cU (λbf=>?_) (λaI=>?_)
  ·have ab:k<l.length:=by omega
   obtain⟨x,hx⟩:∃x,l[k]?=some x:=⟨_,ea ab⟩
   have aO:=c x (eG hx);rw[oF]at aO;refine(Ints.at_ (q:=2) rfl hn).el O k rfl hx ?_;obtain⟨N,rfl⟩:∃N:Nat,n=N:=⟨n.toNat,bu⟩
   obtain⟨X,rfl⟩:∃X:Nat,x=X:=⟨x.toNat,bu⟩
   obtain⟨T,au⟩:∃T:Nat,cp l=T:=⟨(cp l).toNat,bu⟩
   have a8:N*X<=1048576*1099511627776:=HA bu bu;rw[dA (n:=N) bu,dA (n:=X) bu,au,dA (n:=T) bu];refine use (aIj bu bu bu aQ) ?_;rintro _ _ ⟨rfl,rfl⟩;refine⟨_,_,rfl,use (Qz bu bu O) ?_⟩;rintro _ aR ⟨rfl,B⟩;refine⟨_,_,rfl,?_⟩;have bi:N*X/T<=N*X:=Hu _ _;have G:(h4 N l)[k]?=some ((N*X/T:Nat):Int):=by simp[h4,hx,au]
   have ai:(gG N l)[k]?=some ((N*X%T:Nat):Int):=by simp[gG,hx,au]
   generalize N*X/T=Q at*
   generalize N*X%T=R at*
   rw[cX (n:=((Q:Nat):Int)) bu bu];refine j5 (B.fr 1 rfl) (by rw[Y k hk];exact u) bu (by rw[Y k hk];omega) (λaj m=>?_);have aq:(J k).set ((k:Nat):Int).toNat ((Q:Nat):Int)=J (k+1):=by
    rw[dt,t];simp only;rw[take_succ G,iD k _ (by simp;omega),dp];congr 1;rw[gT,M,pM hk,iE,show l.length-k=(l.length-(k+1))+1 by omega,oS];rfl
   rw[aq]at m;have m:Sep E (bw I 1 (bC (J (k+1)))::bw rs 2 (bO cY.vs (g k))::bw s 1 (bC l)::L) aj:=m;have aC:(J (k+1))[k]?=some ((Q:Nat):Int):=by
    rw[t];simp only;rw[eQ (by simp;omega),pI,eV];exact G
   refine(Ints.at_ (q:=0) rfl (by rw[Y _ ab];exact u)).el m k rfl aC ?_;refine Al.i m (λp aS C=>?_);have C:Sep E (bD p (cY.vs ⟨k,((R:Nat):Int)⟩)::bw rs 2 (bO cY.vs (g k))::bw I 1 (bC (J (k+1)))::bw s 1 (bC l)::L) aS:=C.ro 3 [0,2,1] rfl;refine aG4 (by rw[d k hk];exact an) (by rw[d k hk];omega) C (λs' aT aK D=>?_);have aW:g k++[⟨k,((R:Nat):Int)⟩]=g (k+1):=by
    have:((gG N l).zipIdx)[k]?=some (((R:Nat):Int),k):=by rw[List.getElem?_zipIdx,ai];simp
    simp only[g];rw[take_succ this,lu];rfl
   rw[aW]at D;have a5:=Am G;have ba:0<=cp ((h4 (N:Int) l).take k):=oG λy o=>by
    obtain⟨z,ay,rfl⟩:=fD.1 (oo o);exact Bj (Bk bu (c z ay).1) bu
   have bb:cp ((h4 (N:Int) l).take (k+1))<=cp (h4 (N:Int) l):=by
    conv=>rhs;rw[<- fP (k+1) (h4 (N:Int) l)]
    have:0<=cp ((h4 (N:Int) l).drop (k+1)):=oG λy o=>by
     obtain⟨z,ay,rfl⟩:=fD.1 (uE o);exact Bj (Bk bu (c z ay).1) bu
    rw[Fc];omega
   have al:=(tZ (n:=(N:Int)) Z).1;have a2:jk (N:Int) l=N-cp (h4 (N:Int) l):=rfl;rw[c4,cX bu bu];refine⟨⟨k+1,rfl,ab,bu,by rw[aK,d k hk],by rw[t]at D;exact D⟩,?_⟩;show(((l.length:Nat):Int)-((k+1:Nat):Int)).toNat<(((l.length:Nat):Int)-(k:Int)).toNat;omega
  ·have:k=l.length:=by omega
   clear aI;have ae:g k=(gG n l).zipIdx.map ua:=by simp only[g];rw[iq (by simp[af];omega)]
   have aw:n-cp ((h4 n l).take k)=jk n l:=by rw[this,<- M,fB];rfl
   have aB:J k=h4 n l:=by
    rw[t,this];simp only;rw[iE,<- M,fB];simp
   rw[aw];rw[aB]at O;have aY:(g k).Pairwise (λa b=>a.at_<b.at_):=by
    rw[ae,kk];have B:((gG n l).zipIdx.map (·.2)).Pairwise (· < ·):=by rw[List.zipIdx_map_snd];exact List.pairwise_lt_range'
    exact(kk.1 B).imp (λ{a b} h=>by show(a.2:Int)<(b.2:Int);omega)
   refine use (Sh.E8 aK7 aY (by rw[d k hk];exact an) (by rw[d k hk];omega) ?_ O) ?_
   ·intro bm x y aR _ B;exact⟨DN,_,rfl,by kernel_rfl,use (K:=λv w'=>∃r:Int,v=Iv r/\decide (r<0)=Ap x y/\Sep E _ w') (aIm x y B) (λv w' ⟨r,a6,hr,a4⟩=>⟨r,by rw[a6],hr,a4⟩)⟩
   rintro _ aR ⟨rfl,l',H,ax,B⟩;have av:l'.length=l.length:=by rw[H.length_eq,d k hk,this]
   have ad:∀x∈l',0<=x.at_/\ua (q3 x)=x:=by
    intro x hx;have:=H.mem_iff.1 hx;rw[ae]at this;obtain⟨p,_,rfl⟩:=fD.1 this;exact⟨by show(0:Int)<=(p.2:Int);omega,by rw[Rb]⟩
   obtain⟨S,U⟩:∃S,S=l'.map q3:=⟨_,rfl⟩
   have aa:S.Perm (gG n l).zipIdx:=by
    have:=H.map q3;rw[ae,uS,show q3 ∘ ua=id from funext Rb,List.map_id]at this;rw[U];exact this
   have aD:S.Pairwise λa b=>rB a b=true:=by
    rw[U,kk];refine G2 (λ{a b} ah hb aE=>?_) ax;have h1:=(ad a ah).1;have h2:=(ad b hb).1;rw[q0];show b.low<a.low\/(a.low=b.low/\a.at_.toNat<b.at_.toNat);rcases aE with h|⟨ag,O⟩
    ·exact .inl h
    ·exact .inr ⟨ag,bu⟩
   have aL:=Q9 hr Z aa aD;have al:=tZ (n:=n) Z;have be:=Q7 (n:=n) Z;have aZ:=bw.cap B;refine⟨rfl,⟨al.1,bu⟩,?_⟩;obtain⟨A,V⟩:∃A:Nat->bS,A= λj=>lh (h4 n l) ((S.take j).map (·.2)):=⟨_,rfl⟩
   have W:∀j,(A j).length=l.length:=λj=>by rw[V];simp only[Fb,M]
   have az:A 0=h4 n l:=by rw[V];rfl
   have aA:∀j (i:Nat),i<l.length->0<=(A j).getD i 0/\(A j).getD i 0<=1048577:=by
    intro j i a1;obtain⟨x,hx⟩:∃x,l[i]?=some x:=⟨_,ea a1⟩
    have aM:=c x (eG hx);have aN:=aJj (λy o=>(c y o).1) (eG hx);have hb:(h4 n l)[i]?=some (n*x/cp l):=by simp[h4,hx]
    have:=Ao _ _ _ _ (QZ aa j) hb;rw[V,dC];simp only;rw[this];have D:0<=n*x/cp l:=Bj (Bk am aM.1) bu;have ar:n*x/cp l<=n:=Int.ediv_le_of_le_mul Z (bg6 aN am);simp only[mY];split<;>omega
   rw[<- az]at B;refine⟨λx w'=>∃j:Nat,x=j/\j<=(jk n l).toNat/\Sep E (bw rs 2 (bO cY.vs l')::bw I 1 (bC (A j))::bw s 1 (bC l)::L) w',λx _=>(jk n l-x).toNat,⟨0,rfl,dX _,B⟩,?_⟩;rintro _ x aj ⟨j,rfl,bl,m⟩;refine cU (λa3=>?_) (λa0=>?_)
   ·have aJ:j<l'.length:=by omega
    obtain⟨y,o⟩:∃y,l'[j]?=some y:=⟨_,ea aJ⟩
    have ap:=(ad y (eG o)).1;have aP:y.at_.toNat<l.length:=by
     have C:S[j]?=some (q3 y):=by rw[U,ez,o];rfl
     have D:=aux.1 (aa.mem_iff.1 (eG C));have:=(c2.1 D).1;rw[af]at this;exact this
    have aH:∀ {F:Addr->Prop},(∀a,aj.cell? (a.add 0)=some (Iv y.at_)->aj.cell? (a.add 1)=some (.int .u64 y.low)->F a)->cF (gA rs.p 0 rs.c 2) ((jk n l).toNat-0) (j:Int) 2 F:=by
     intro F a7;obtain⟨b,spare,hp,_⟩:=bw.iB m bu;have aX:gA rs.p 0 rs.c 2=some ⟨b,0,none⟩:=by unfold gA;rw[hp];split<;>rfl
     rw[aX];obtain⟨a,ah,hr,hf⟩:=jL (F:=F) (k:=j) cY.lb 0 m rfl (by rw[av];omega) (i:=(j:Int)) rfl o (λb _ aF=>a7 _ (by rw[cj];exact aF 0 _ rfl) (by rw[cj];exact aF 1 _ rfl));rw[hp]at ah;have:=cV ah;subst this;exact⟨_,rfl,⟨bu,bu⟩,hf⟩
    refine aH (λa aU aV=>⟨_,aU,_,aV,Al.i m (λp aS C=>ey _ C rfl (λaT D=>?_))⟩);refine ld D 0 rfl rfl rfl ?_;have ar:Sep E (bw I 1 (bC (A j))::bw rs 2 (bO cY.vs l')::bw s 1 (bC l)::L) aT:=D.tail.fr 1 rfl;have ao:I.n=(A j).length:=by rw[W];exact u
    refine mN 0 ar rfl ao ap (by rw[W];omega) (λbk aG=>⟨_,aG,?_⟩);have bc:=aA j y.at_.toNat aP;rw[cX bu bu];refine j5 ar ao ap (by rw[W];omega) (λbj ak=>?_);have e:(A j).set y.at_.toNat ((A j).getD y.at_.toNat 0+1)=A (j+1):=by
     rw[V];simp only;have C:S[j]?=some (q3 y):=by rw[U,ez,o];rfl
     rw[take_succ C,lu,kB,List.map_nil,Q0];rfl
    rw[e]at ak;rw[c4];refine⟨⟨j+1,rfl,bu,ak.swap⟩,?_⟩;show(jk n l-((j+1:Nat):Int)).toNat<(jk n l-(j:Int)).toNat;omega
   ·have:j=(jk n l).toNat:=by omega
    subst this;have e:A (jk n l).toNat=jj n l:=by rw[aL,V]
    rw[e]at m;exact⟨I,rfl,by rw[u,q1 hr],m.tail⟩
end Go.Mp
namespace Go.Kc
def iL(n:Int)(l:bS):bS:=List.zipWith min (jj n l) l
variable{n:Int}{l:bS}
def Fg(hr:iG n l=true):(iL n l).length=l.length:=by
 simp[iL,q1 hr]
def sd(hr:iG n l=true)(a:0<cp l){i:Nat}{x:Int}(hx:l[i]?=some x):∃p,(jj n l)[i]?=some p/\(iL n l)[i]?=some (min p x)/\0<=min p x/\min p x<=x:=by
 obtain⟨p,hp,h1,h2,b⟩:=Ff hr a hx;have c:=(tY hr).2.2 x (eG hx);refine⟨p,hp,by simp[iL,G9,hp,hx],bu,bu⟩
def Fh(hr:iG n l=true)(b:0<cp l)(hn:0<n):iL n l=ju n l:=by
 unfold ju;rw[bJ (by rw[hr];decide),cK];by_cases hle:cp l<=n
 ·rw[bK hle];apply gJ;intro i;cases hx:l[i]? with
  |none=>
   have:=G1.1 hx;exact gI (by rw[Fg hr];exact this)
  |some x=>
   obtain⟨p,hp,h1,h2,d⟩:=Ff hr b hx;obtain⟨p',a,c,_,_⟩:=sd hr b hx;rw[hp]at a;cases a;rw[c,Int.min_eq_right (d hle)]
 ·rw[bJ hle];apply gJ;intro i;cases hx:l[i]? with
  |none=>
   have:=G1.1 hx;rw[gI (by rw[Fg hr];exact this),gI (by rw[q1 hr];exact this)]
  |some x=>
   obtain⟨p,hp,h1,h2,d⟩:=Ff hr b hx;obtain⟨p',a,c,_,_⟩:=sd hr b hx;rw[hp]at a;cases a;rw[c,hp,Int.min_eq_left (h2 bu)]
def aHl(hr:iG n l=true)(a:0<cp l)(hn:0<n):0<cp (iL n l)/\cp (iL n l)<=n/\(cp (iL n l)=n\/iL n l=l):=by
 have e:=Fh hr a hn;rw[e];unfold ju;rw[bJ (by rw[hr];decide),cK];by_cases hle:cp l<=n;·rw[bK hle];exact⟨a,hle,.inr rfl⟩
 ·rw[bJ hle,aE7 hr a];exact⟨hn,hh _,.inl rfl⟩
def Fi(hr:iG n l=true)(h:n<=0\/cp l=0):ju n l=List.replicate l.length 0:=by
 have h1:=(tY hr).1.1;unfold ju;rw[bJ (by rw[hr];decide),eV];simp[List.map_const']
end Go.Kc
namespace Go.Mp
open Go Go.Vc Go.Sp Go.Proofs Go.Kc Go.Mp.Sh
variable{E:Env}{L:cr}{w:bI}
def pv(n:Int)(c h:Sl)(K:bj0)(w:bI):Prop:=
  ∃(i:Int->bi9) (l:Int->bI->Nat),i n w/\∀C:Nat->bH,∀n14:Int,∀f:bI,i n14 f->∃k:bi9,(bif(decide (n14
   >0))then(Calls P vJ #[(Sv c)] f λz p=>∃s:Int,z=.returned (Iv s)/\bif(decide (s>0))then(k p)else
   (K (Sv h) p))else(K (Sv h) f))/\(∀D:Nat->bH,∀o:bI,k o->Calls P yV #[(Iv n14),
   (Sv c)] o λA B=>∃g:Sl,A=.returned (Sv g)/\∃(j:Int->Int->bi9) (m:Int->Int->bI->Nat),
   j n14 0 B/\∀E:Nat->bH,∀n28:Int,∀a:Int,∀b:bI,j n28 a b->bif(decide (a<((g.n:Nat):Int)))then(cF g.p g.n a 1
   λv=>∃d:Int,b.cell? v=some (Iv d)/\cF c.p c.n a 1 λa32=>∃e:Int,b.cell? a32=some (Iv e)/\cF h.p h.n a 1
   λx=>∃t:Int,b.cell? x=some (Iv t)/\cF h.p h.n a 1 λa36=>St a36 (Iv (i64.wrap (t+(min1 d e)))) (λq=>
   cF c.p c.n a 1 λy=>∃u:Int,q.cell? y=some (Iv u)/\cF c.p c.n a 1 λa40=>St a40 (Iv (i64.wrap (u-(min1 d
   e)))) (λr=>(j (i64.wrap (n28-(min1 d e))) (i64.wrap (a+1)) r/\m (i64.wrap (n28-(min1 d e))) (i64.wrap
   (a+1)) r<m n28 a b)) q) b)else((i n28 b/\l n28 b<l n14 f)))
def Re{n:Int}{l:bS}{o d:Sl}{K:bj0}{M:cr}(hr:iG n l=true)(z:o.n=l.length)(S:d.n=l.length)(h:Sep E (bw o 1 (bC l)::bw d 1 (bC (List.replicate l.length 0))::M) w)(hK:∀w',Sep E (bw d 1 (bC (ju n l))::M) w'->K (Sv d) w'):pv n o d K w:=by
 unfold pv;obtain⟨⟨aq,ar⟩,hl,u⟩:=tY hr;let st2:Int->bi9:=λn' w'=>∃r:bS,(n'<=0\/cp r=0)/\r.length=l.length/\(∀x∈r,0<=x/\x<=top)/\Sep E (bw o 1 (bC r)::bw d 1 (bC (ju n l))::M) w';refine⟨λn' w'=>(n'=n/\Sep E (bw o 1 (bC l)::bw d 1 (bC (List.replicate l.length 0))::M) w')\/st2 n' w',λn' _=>n'.toNat,.inl ⟨rfl,h⟩,?_⟩;rintro _ n' aD (⟨rfl,h1⟩|⟨r,P,au,ag,h1⟩);rotate_left
 ·refine⟨λ_=>False,gv (λR=>?_) (λhle=>hK _ h1.tail),λ_ _ hf=>hf.elim⟩;refine use (Fa (Ints.at_ (q:=0) rfl bu) ag bu h1) ?_;rintro _ w2 ⟨rfl,h2⟩;exact⟨_,rfl,gv (λJ=>bu) (λ_=>hK _ h2.tail)⟩
 refine⟨λw'=>0<n'/\0<cp l/\Sep E (bw o 1 (bC l)::bw d 1 (bC (List.replicate l.length 0))::M) w',gv (λR=>?_) (λhle=>hK _ ?_),?_⟩
 ·refine use (Fa (Ints.at_ (q:=0) rfl z) u hl h1) ?_;rintro _ w2 ⟨rfl,h2⟩;refine⟨_,rfl,gv (λJ=>⟨R,J,h2⟩) (λhle=>hK _ ?_)⟩;have:=oG (l:=l) (λx hx=>(u x hx).1);rw[Fi hr (.inr bu)];exact h2.tail
 ·rw[Fi hr (.inl bu)];exact h1.tail
 rintro _ w2 ⟨L,D,h2⟩;refine use (aJ9 z h2 bu) ?_;rintro _ aj ⟨ps,rfl,T,U⟩;refine⟨ps,rfl,?_⟩;rw[q1 hr]at T;have b:=Fg hr;obtain⟨O,H⟩:∃f:Nat->bS,f= λk=>(iL n' l).take k++List.replicate (l.length-k) 0:=⟨_,rfl⟩
 obtain⟨F,G⟩:∃f:Nat->bS,f= λk=>(List.zipWith (· - ·) l (iL n' l)).take k++l.drop k:=⟨_,rfl⟩
 have I:∀k,k<=l.length->(O k).length=l.length:=λk hk=>by rw[H];simp[b];omega
 have B:∀k,k<=l.length->(F k).length=l.length:=λk hk=>by rw[G];simp[b];omega
 have aa:O 0=List.replicate l.length 0:=by rw[H];simp
 have X:F 0=l:=by rw[G];simp
 have ab:O l.length=iL n' l:=by rw[H];simp only;rw[iE,<- b,fB];simp
 have Y:F l.length=List.zipWith (· - ·) l (iL n' l):=by rw[G];simp only;rw[iq (by simp[b]),xC,g3]
 have U:Sep E (bw ps 1 (bC (jj n' l))::bw o 1 (bC (F 0))::bw d 1 (bC (O 0))::M) aj:=by rw[aa,X];exact U
 have C:∀k,0<=cp ((iL n' l).take k):=λk=>oG λy N=>by
  obtain⟨i,j⟩:=rk.1 (oo N);have c:=(c2.1 j).1;rw[b]at c;obtain⟨p,_,g,s,_⟩:=sd hr D (ea c);rw[g]at j;cases j;exact s
 obtain⟨am,an,af⟩:=aHl hr D L;refine⟨λm x w'=>∃k:Nat,x=k/\k<=l.length/\m=n'-cp ((iL n' l).take k)/\Sep E (bw ps 1 (bC (jj n' l))::bw o 1 (bC (F k))::bw d 1 (bC (O k))::M) w',λ_ x _=>(l.length-x).toNat,⟨0,rfl,dX _,by simp[sc],U⟩,?_⟩;rintro _ _ _ aE ⟨k,rfl,hk,rfl,A⟩;refine cU (λap=>?_) (λao=>?_)
 ·have v:k<l.length:=by omega
  obtain⟨x,hx⟩:∃x,l[k]?=some x:=⟨_,ea v⟩
  obtain⟨p,hp,V,az,aA⟩:=sd hr D hx;have ah:=u x (eG hx);rw[oF]at ah;have Q:(F k)[k]?=some x:=by
   rw[G];simp only;rw[fL (by rw[gT,List.length_zipWith,b];omega)];simp[b,pM hk,hx]
  have ad:(O k)[k]?=some 0:=by
   rw[H];simp only;rw[fL (by simp;omega)];rw[gT,b,pM hk,iE,oh,eV]
  refine(Ints.at_ (q:=0) rfl (by rw[q1 hr];exact T)).el A k rfl hp ?_;refine(Ints.at_ (q:=1) rfl (by rw[B k hk];exact z)).el A k rfl Q ?_;refine(Ints.at_ (q:=2) rfl (by rw[I k hk];exact S)).el A k rfl ad ?_;have em:min1 p x=min p x:=by unfold min1;omega
  rw[em];generalize hm:min p x=t at*
  rw[cX (n:=0+t) bu bu];refine j5 (A.fr 2 rfl) (by rw[I k hk];exact S) bu (by rw[I k hk];omega) (λak g=>?_);have ae:(O k).set ((k:Nat):Int).toNat (0+t)=O (k+1):=by
   rw[dt,Bn,H];simp only;rw[take_succ V,iD k _ (by simp;omega),dp];congr 1;rw[gT,b,pM hk,iE,show l.length-k=(l.length-(k+1))+1 by omega,oS];rfl
  rw[ae]at g;have g:Sep E (bw d 1 (bC (O (k+1)))::bw ps 1 (bC (jj n' l))::bw o 1 (bC (F k))::M) ak:=g;refine(Ints.at_ (q:=2) rfl (by rw[B k hk];exact z)).el g k rfl Q ?_;rw[cX (n:=x-t) bu bu];refine j5 (g.fr 2 rfl) (by rw[B k hk];exact z) bu (by rw[B k hk];omega) (λal s=>?_);have Z:(F k).set ((k:Nat):Int).toNat (x-t)=F (k+1):=by
   rw[dt,G];simp only;have P:(List.zipWith (· - ·) l (iL n' l))[k]?=some (x-t):=by simp[G9,hx,V]
   rw[take_succ P,iD k _ (by simp;omega),dp];congr 1;rw[gT,List.length_zipWith,b,Nat.min_self,pM hk,iE];rw[kZ v];rfl
  rw[Z]at s;have s:Sep E (bw o 1 (bC (F (k+1)))::bw d 1 (bC (O (k+1)))::bw ps 1 (bC (jj n' l))::M) al:=s;have av:=Am V;have aw:=C k;have ax:=C (k+1);have ay:cp ((iL n' l).take (k+1))<=cp (iL n' l):=by
   conv=>rhs;rw[<- fP (k+1) (iL n' l)]
   rw[Fc];have:0<=cp ((iL n' l).drop (k+1)):=oG λy N=>by
    obtain⟨i,j⟩:=rk.1 (uE N);have c:=(c2.1 j).1;rw[b]at c;obtain⟨p,_,g,s,_⟩:=sd hr D (ea c);rw[g]at j;cases j;exact s
   omega
  rw[c4,cX bu bu];refine⟨⟨k+1,rfl,v,bu,s.ro 3 [2,0,1] rfl⟩,?_⟩;show(((l.length:Nat):Int)-((k+1:Nat):Int)).toNat<(((l.length:Nat):Int)-(k:Int)).toNat;omega
 ·have v:k=l.length:=by omega
  subst v;rw[ab,Y]at A;have W:(iL n' l).take l.length=iL n' l:=by rw[<- b,fB]
  rw[W];refine⟨.inr ⟨List.zipWith (· - ·) l (iL n' l),?_,by simp[b],?_,?_⟩,by show(n'-cp (iL n' l)).toNat<n'.toNat;omega⟩;rotate_left
  ·intro y N;obtain⟨i,j⟩:=rk.1 N;have c:=(c2.1 j).1;simp[b]at c;obtain⟨p,_,g,s,aB⟩:=sd hr D (ea c);have aC:=u _ (oT c);rw[G9,ea c,g]at j;simp only[fT]at j;omega
  ·rw[Fh hr D L]at A ⊢;exact A.tail
  ·rcases af with e|e;·exact .inl bu
   ·refine .inr ?_;rw[e];have:List.zipWith (· - ·) l l=l.map (λ_=>(0:Int)):=by
     apply gJ;intro i;rw[G9,ez];cases l[i]? <;>simp
    rw[this];have P:∀m:bS,cp (m.map λ_=>(0:Int))=0:=by
     intro m;induction m with
     |nil=>rfl
     |cons a m ai=>rw[kB,mP,ai];rfl
    exact P l
def aIf{s:Sl}{l:bS}{n:Int}(hn:s.n=l.length)(hb:l.length<1000000)(h:Sep E (bw s 1 (bC l)::L) w):
  Calls P JQ #[Iv n,Sv s] w (cC λv w'=>∃e:Sl,v=Sv e/\e.n=(ju n l).length/\Sep E (bw e 1 (bC (ju n l))::bw s 1 (bC l)::L) w'):=by
 obtain⟨K,hK⟩:∃K:bj0,K= λv w'=>∃e:Sl,v=Sv e/\e.n=(ju n l).length/\Sep E (bw e 1 (bC (ju n l))::bw s 1 (bC l)::L) w':=⟨_,rfl⟩
 rw[<- hK];apply Xw;unfold L2 qD qF qI qJ qO qQ qW qg;refine use (QU hn h) ?_;rintro _ k ⟨rfl,h1⟩;refine⟨_,rfl,?_⟩;cases hr:iG n l with
 |false=>
  have e:ju n l= []:=by unfold ju;rw[bK hr]
  exact bT rfl (by rw[hK,e];exact⟨⟨none,0,0⟩,rfl,rfl,bw.none_ h1⟩)
 |true=>
  refine bF rfl (Dr.i h1 (λi g=>?_));have j:(ju n l).length=l.length:=by
   unfold ju;rw[bJ (by rw[hr];decide)];split;·simp
   ·split;·rfl
    ·exact q1 hr
  have A:∃x:Sl,∃a:bI,Sem.run P (Instr.makeSlice jK (Iv ((s.n:Nat):Int)) (Iv ((s.n:Nat):Int))) i=.ok (Sv x) a/\Calls P vI #[Sv s] a λe b=>∃y:Sl,e=.returned (Sv y)/\pv n y x K b:=by
   refine r9 (n:=s.n) bu g (λx a hx c=>?_);refine use (QT c (q:=1) rfl hn bu) ?_;rintro _ b ⟨y,rfl,f,d⟩;rw[hn]at d;refine⟨y,rfl,Re hr f bu d (λw' h'=>?_)⟩;rw[hK];exact⟨x,rfl,bu,h'⟩
  have B:Calls P vI #[Sv s] i λe b=>∃y:Sl,e=.returned (Sv y)/\∃x:Sl,∃a:bI,Sem.run P (Instr.makeSlice jK (Iv ((s.n:Nat):Int)) (Iv ((s.n:Nat):Int))) b=.ok (Sv x) a/\pv n y x K a:=by
   refine use (QT g (q:=0) rfl hn bu) ?_;rintro _ b ⟨y,rfl,f,d⟩;refine⟨y,rfl,r9 (n:=s.n) bu d (λx a hx c=>?_)⟩;rw[hn]at c;refine Re hr f bu c.swap (λw' h'=>?_);rw[hK];exact⟨x,rfl,bu,h'⟩
  try simp only[and_true]
  repeat' first|exact A|exact B|apply And.intro
end Go.Mp
