/- Part of a proof about the core: of its walks and plain laws. -/
import Derived.Test.YtafigbgagbolgaaGreatDoorC10
import Derived.Shelf.SlIterI.Nil
import Derived.Shelf.SortM.Plain
import Derived.Shelf.SortM.SortNone
import Derived.Test.YtafigbgagbolgaaGreatDoorProg
set_option linter.all false
set_option maxRecDepth 100000
open Go.IntKind(i64 u64)
namespace Go.Mp
open Go Go.Vc Go.Sp Go.Proofs Go.Kc
variable{E:Env}{L:ch}{w W:World}
structure cZ where
 c:ei
 failed:Int
 iZ:Int
def cZ.vs(r:cZ):List Value:=[Iv r.c.use,Iv r.c.cf,Iv r.failed,Iv r.iZ]
def cZ.la(r:cZ):r.vs.length=4:=rfl
def c6(b:Nat)(C:List ei):Asn:=e8 λR:List cZ=>cC (R.map cZ.c=C/\hd C) (bE b (bQ cZ.vs R))
def c6.get{b:Nat}{C:List ei}(h:Sep E (c6 b C::L) w):∃R:List cZ,R.map cZ.c=C/\hd C/\R.length=64/\Sep E (bE b (bQ cZ.vs R)::L) w:=by
 obtain⟨R,h⟩:=Sep.ex.1 h;obtain⟨a,h⟩:=Sep.cC.1 h;refine⟨R,a.1,a.2,?_,h⟩;have:=a.2.len;rw[<- a.1,eb]at this;exact this
def c6.mk{b:Nat}{C:List ei}{R:List cZ}(h1:R.map cZ.c=C)(a:hd C)(h:Sep E (bE b (bQ cZ.vs R)::L) w):Sep E (c6 b C::L) w:=Sep.ex.2 ⟨R,Sep.cC.2 ⟨⟨h1,a⟩,h⟩⟩
def c6.ok{b:Nat}{C:List ei}{q:Nat}(h:Sep E L w)(c:L[q]?=some (c6 b C)):hd C:=let ⟨_,_,a,_⟩:=c6.get (h.fr q c);a
def E2(g:Int)(w:World):Calls P yD #[Iv g] w (bW λv w'=>v=.bool (fx g)/\w'=w):=by
 apply Wx;unfold Ld fx;exact hN (λh=>⟨by rw[dh h];rfl,rfl⟩) (λh=>⟨by rw[c4 bA];rfl,rfl⟩)
def QV(g:Int)(w:World):Calls P C8 #[Iv g] w (bW λv w'=>v=.bool (gf g)/\w'=w):=by
 apply XL;unfold Mb gf top;exact hN (λh=>⟨by rw[dh h];rfl,rfl⟩) (λh=>⟨by rw[c4 bA];rfl,rfl⟩)
variable{b:Nat}{C:List ei}
def E3{R:List cZ}(h1:R.map cZ.c=C){g:Int}(a:fx g=true){r:cZ}(b:R[g.toNat]?=some r):gU C g=r.c:=by
 unfold gU;rw[a,bM rfl,<- h1,dK,ew,b];rfl
def wv{q:Nat}(h:Sep E L w)(m:L[q]?=some (c6 b C))(g:Int):Calls P Cu #[Pb b,Iv g] w
  (bW λv w'=>∃f k:Int,v=.agg #[Iv (gU C g).use,Iv (gU C g).cf,Iv f,Iv k]/\Sep E L w'):=by
 apply Wq;unfold K6 qA qF qU;refine Al.i h (λp o h1=>use (E2 g o) ?_);rintro _ w2 ⟨rfl,rfl⟩;refine⟨_,rfl,?_⟩;cases i:fx g with
 |false=>
  refine eC (eh _ h1 rfl (λs a=>⟨_,by rw[cj,a.cell];rfl,_,by rw[cj,a.cell];rfl,_,by rw[cj,a.cell];rfl,_,by rw[cj,a.cell];rfl,?_⟩));have e:gU C g=⟨0,0⟩:=by unfold gU;rw[i];rfl
  rw[e];exact⟨0,0,rfl,a.tail⟩
 |true=>
  obtain⟨R,l,t,hlen,j⟩:=c6.get (h1.fr (q+1) (by simpa using m));have d:=iJ.1 i;refine dH ⟨_,rfl,k1 (q:=0) cZ.la j rfl hlen d.1 (by exact_mod_cast d.2) (λr n c=>?_)⟩;refine⟨_,by rw[cj];exact c 0 _ rfl,_,by rw[cj];exact c 1 _ rfl,_,by rw[cj];exact c 2 _ rfl,_,by rw[cj];exact c 3 _ rfl,?_⟩;refine eh _ h1 rfl (λs a=>⟨_,by rw[cj,a.cell];rfl,_,by rw[cj,a.cell];rfl,_,by rw[cj,a.cell];rfl,_,by rw[cj,a.cell];rfl,?_⟩);rw[E3 l i n];exact⟨_,_,rfl,a.tail⟩
def Ai{q:Nat}(h:Sep E L w)(a:L[q]?=some (c6 b C))(g:Int):Calls P yk #[Pb b,Iv g] w (bW λv w'=>v=Iv (cJ C g)/\Sep E L w'):=by
 apply Wg;unfold KV qH;refine use (wv h a g) ?_;rintro _ c ⟨f,k,rfl,h1⟩;exact⟨_,_,_,_,rfl,rfl,h1⟩
def aKn{q:Nat}(h:Sep E L w)(a:L[q]?=some (c6 b C))(g:Int):Calls P Kh #[Pb b,Iv g] w (bW λv w'=>v=Iv (db C g)/\Sep E L w'):=by
 apply YY;unfold Nc qH;refine use (wv h a g) ?_;rintro _ c ⟨f,k,rfl,h1⟩;exact⟨_,_,_,_,rfl,rfl,h1⟩
def E4{R:List cZ}(h1:R.map cZ.c=C){g:Int}{r r':cZ}(a:R[g.toNat]?=some r)(f:ei->ei)(hf:r'.c=f r.c):(R.set g.toNat r').map cZ.c=iv C g f:=by
 unfold iv;have:C.getD g.toNat ⟨0,0⟩=r.c:=by rw[<- h1,dK,ew,a];rfl
 rw[this,<- hf,<- h1,hq]
def um{R:List cZ}{F:bh6}(h:Sep E (bE b (bQ cZ.vs R)::L) w){k j:Nat}{r r':cZ}{v:Value}(d:R[k]?=some r)(f:j<4)(e:r'.vs=r.vs.set j v)(g:∀a,Sep E (bE b (bQ cZ.vs (R.set k r'))::L) a->F a):St ((⟨b,k*4,none⟩:Addr).add j) v F w:=by
 have c:=(cT.1 d).1;rw[cj];refine St.i h ?_ (λa h1=>g a ?_)
 ·rw[oq cZ.la];have:(k+1)*4<=R.length*4:=kv _ c;omega
 ·rw[Eb cZ.la d f e]at h1;exact h1
def QW(h:Sep E (c6 b C::L) w)(g n:Int):Calls P CH #[Pb b,Iv g,Iv n] w
  (bW λv w'=>v=Iv (hs C g n).2/\Sep E (c6 b (hs C g n).1::L) w'):=by
 apply W4;unfold Lx qF qg;have a:=(c6.ok (q:=0) h rfl).ka g n;unfold hs at a ⊢;refine⟨λw'=>w'=w/\fx g=true/\gf n=true,use (E2 g w) ?_,?_⟩
 ·rintro _ l ⟨rfl,rfl⟩;refine⟨_,rfl,?_⟩;cases d:fx g with
  |false=>exact eC ⟨rfl,h⟩
  |true=>
   refine dH (use (QV n l) ?_);rintro _ w2 ⟨rfl,rfl⟩;refine⟨_,rfl,?_⟩;cases f:gf n with
   |false=>exact eC ⟨rfl,h⟩
   |true=>exact dH ⟨rfl,rfl,rfl⟩
 ·rintro _ w2 ⟨rfl,d,f⟩;rw[d,f]at a ⊢;obtain⟨R,k,m,hlen,e⟩:=c6.get h;have c:=iJ.1 d;refine⟨_,rfl,k1 (q:=0) cZ.la e rfl hlen c.1 (by exact_mod_cast c.2) (λr i o=>?_)⟩;exact um (r':=⟨{r.c with cf:=n},r.failed,r.iZ⟩) e i bO rfl (λp j=>⟨rfl,c6.mk (E4 k i (λx=> {x with cf:=n}) rfl) a j⟩)
def aBN(h:Sep E L w):Calls P I5 #[] w (bW λv w'=>∃p,v=Pb p/\Sep E (c6 p j4::L) w'):=by
 apply Ww;unfold Lc qO qz;refine Al.i h (λp g h1=>?_);have h1:Sep E (bE p (bQ cZ.vs (List.replicate 64 ⟨⟨0,0⟩,0,0⟩))::L) g:=h1;refine⟨λx w'=>∃j:Nat,x=j/\j<=64/\Sep E (bE p (bQ cZ.vs (List.replicate j ⟨⟨0,top⟩,0,0⟩++List.replicate (64-j) ⟨⟨0,0⟩,0,0⟩))::L) w',λx _=>(64-x).toNat,⟨0,rfl,bA,h1⟩,?_⟩;rintro _ x w2 ⟨j,rfl,l,b⟩;refine cL (λd=>?_) (λi=>?_)
 ·have d:j<64:=by omega
  refine⟨_,rfl,k1 (q:=0) cZ.la b rfl (by simp;omega) bA bA (λr a k=>?_)⟩;rw[dk]at a ⊢;have f:r=⟨⟨0,0⟩,0,0⟩:=by
   rw[fo (by simp),kJ,hG,lN,eG]at a;exact(cQ a).symm
  subst f;refine um (r':=⟨⟨0,top⟩,0,0⟩) b a bO rfl (λm c=>?_);have e:(List.replicate j (⟨⟨0,top⟩,0,0⟩:cZ)++List.replicate (64-j) (⟨⟨0,0⟩,0,0⟩:cZ)).set j (⟨⟨0,top⟩,0,0⟩:cZ)=List.replicate (j+1) (⟨⟨0,top⟩,0,0⟩:cZ)++List.replicate (64-(j+1)) (⟨⟨0,0⟩,0,0⟩:cZ):=by
   rw[ik _ _ (by simp),kJ,hG,show 64-j=(64-(j+1))+1 by omega,nV,xx,List.replicate_succ',dc];rfl
  rw[e]at c;exact⟨⟨j+1,c1,bA,c⟩,by dsimp only;rw[c1];omega⟩
 ·have:j=64:=by omega
  subst this;exact⟨p,rfl,c6.mk (by rw[hG];simp[j4]) hd.new b⟩
def jE(met:Int->Bool):List Value:=(List.range 64).map λi:Nat=>Value.bool (met i)
def QX{l:bU}{k:Nat}{x:Int}(hx:l[k]?=some x)(h:nodupB (l.take k)=true):nodupB (l.take (k+1))= !(l.take k).contains x:=by
 rw[fw hx];cases d:(l.take k).contains x with
 |true=>
  cases f:nodupB (l.take k++[x])with
  |false=>rfl
  |true=>
   rw[te,A0]at f;have:=f.2.2 x (by simpa using d) x (by simp);exact absurd rfl this
 |false=>
  show nodupB _=true;rw[te]at h ⊢;rw[A0];refine⟨h,by simp,λa g c b e=>?_⟩;rw[iD]at b;subst b e;have:=kI.2 g;rw[d]at this;cases this
def aHv{l:bU}{k:Nat}(h:nodupB (l.take k)=false):nodupB l=false:=by
 cases a:nodupB l with
 |false=>rfl
 |true=>
  rw[te]at a;have:(l.take k).Nodup:=a.sublist (oI k l);rw[<- te,h]at this;cases this
def QY{s:Sl}{l:bU}(r:Ints E L s l)(H:l.length<4611686018427387904)(n:Int)(h:Sep E L w):Calls P C5 #[Sv s,Iv n] w (bW λv w'=>v=.bool (iH l n)/\Sep E L w'):=by
 apply XI;unfold L8 qD qF qO qW qm zK;refine Al.i h (λp C h1=>?_);have h1:Sep E (bE p (jE λ_=>false)::L) C:=h1;have J:=r.1;refine⟨λx w'=>∃k:Nat,x=k/\k<=l.length/\(l.take k).all fx=true/\nodupB (l.take k)=true/\Sep E (bE p (jE λi=>(l.take k).contains i)::L) w',λx _=>(l.length-x).toNat,⟨0,rfl,ec _,by simp,by simp[nodupB],by simpa using h1⟩,?_⟩;rintro _ x w2 ⟨k,rfl,I,a,c,d⟩;refine cL (λG=>?_) (λF=>?_)
 ·obtain⟨y,g⟩:∃y,l[k]?=some y:=⟨_,dL⟩
  refine(r.cons (A:=bE p (jE λi=>(l.take k).contains i))).el d k rfl g (use (E2 y w2) ?_);rintro _ D ⟨rfl,rfl⟩;refine⟨_,rfl,?_⟩;cases o:fx y with
  |false=>
   refine eC ⟨?_,d.tail⟩;have:l.all fx=false:=by
    cases z:l.all fx with
    |false=>rfl
    |true=>have:=fB.1 z y (eu g);rw[o]at this;cases this
   unfold iH;rw[this];rfl
  |true=>
   have b:=iJ.1 o;have j:∀(f:Int->Bool) {w':World},Sep E (bE p (jE f)::L) w'->w'.cell? ((⟨p,0,none⟩:Addr).add (y.toNat*1))=some (.bool (f y)):=by
    intro f w' B;rw[cj,B.cell,e5,fC];unfold jE;rw[ew,my bA];simp only[jh];rw[show((y.toNat:Nat):Int)=y by omega]
   refine dH ⟨_,rfl,⟨b.1,by exact_mod_cast b.2⟩,_,j _ d,?_⟩;cases t:(l.take k).contains y with
   |true=>
    refine eC ⟨?_,d.tail⟩;have:nodupB l=false:=aHv (k:=k+1) (by rw[QX g c,t];rfl);unfold iH;rw[this,sN];rfl
   |false=>
    refine dH ⟨_,rfl,⟨b.1,by exact_mod_cast b.2⟩,?_⟩;refine St.j d (by unfold jE;simp;omega) (λK q=>?_);have e:(jE λi=>(l.take k).contains i).set (0+y.toNat*1) (.bool true)=jE λi=>(l.take (k+1)).contains i:=by
     rw[e5,fC,fw g];apply g6;intro i;unfold jE;rw[jg];by_cases u:i<64
     ·by_cases m:y.toNat=i
      ·subst m;rw[bM rfl,bM (by simp;omega),ew,my u];simp only[jh,TY];rw[show((y.toNat:Nat):Int)=y by omega];simp
      ·rw[bJ m,ew,ew,my u];simp only[jh,TY];have:([y].contains ((i:Nat):Int))=false:=by simp;omega
       rw[this,pG]
     ·rw[cM,fH (by simp;omega),fH (by simp;omega)]
    rw[e]at q;refine⟨⟨k+1,c1,bA,?_,?_,q⟩,by dsimp only;rw[c1];omega⟩;·rw[fw g,List.all_append,a];simp[o]
    ·rw[QX g c,t];rfl
 ·have:k=l.length:=by omega
  subst this;rw[fN]at a c;refine use (QV n w2) ?_;rintro _ D ⟨rfl,rfl⟩;refine⟨_,rfl,?_,d.tail⟩;unfold iH;rw[a,c];rfl
def QZ{s:Sl}{l:bU}(u:Ints E L s l)(U:l.length<4611686018427387904)(O:∀g∈l,0<=g/\g<64){is:Value}{isB:ei->Bool}(D:hd C)(z:∀(x:ei) f k w',(0<=x.use/\x.use<=top)/\0<=x.cf/\x.cf<=top->Sep E (c6 b C::L) w'->eX P is #[.agg #[Iv x.use,Iv x.cf,Iv f,Iv k]] w' (bW λv H=>v=.bool (isB x)/\Sep E (c6 b C::L) H))(h:Sep E (c6 b C::L) w):Calls P C6 #[Pb b,Sv s,is] w
  (bW λv w'=>v=Iv (match l.find? (λg=>isB (C.getD g.toNat ⟨0,0⟩))with|some g=>g|none=> -1)/\Sep E (c6 b C::L) w'):=by
 apply XJ;unfold L9 qA qD qO qW;have W:=u.1;refine⟨λx w'=>∃k:Nat,x=k/\k<=l.length/\(∀g∈l.take k,isB (C.getD g.toNat ⟨0,0⟩)=false)/\Sep E (c6 b C::L) w',λx _=>(l.length-x).toNat,⟨0,rfl,ec _,by simp,h⟩,?_⟩;rintro _ x w2 ⟨k,rfl,V,c,d⟩;refine cL (λS=>?_) (λQ=>?_)
 ·obtain⟨y,m⟩:∃y,l[k]?=some y:=⟨_,dL⟩
  have p:=O y (eu m);refine(u.cons (A:=c6 b C)).el d k rfl m ?_;obtain⟨R,B,T,hlen,M⟩:=c6.get d;refine⟨_,rfl,k1 (q:=0) cZ.la M rfl hlen p.1 (by exact_mod_cast p.2) (λr F e=>?_)⟩;refine⟨_,by rw[cj];exact e 0 _ rfl,_,by rw[cj];exact e 1 _ rfl,_,by rw[cj];exact e 2 _ rfl,_,by rw[cj];exact e 3 _ rfl,?_⟩;have o:C.getD y.toNat ⟨0,0⟩=r.c:=by rw[<- B,dK,ew,F];rfl
  have G:=D.ok r.c (by rw[<- B];exact e4.2 ⟨r,eu F,rfl⟩);have j:=z r.c r.failed r.iZ w2 G d;obtain⟨fn,ca,I,J,K⟩:=j;refine⟨fn,ca,I,J,use K ?_⟩;rintro _ X ⟨rfl,t⟩;refine⟨_,rfl,?_⟩;cases n:isB r.c with
  |true=>
   refine eC ⟨?_,t⟩;have:l.find? (λg=>isB (C.getD g.toNat ⟨0,0⟩))=some y:=by
    rw[<- fA k l,List.find?_append];have N:(l.take k).find? (λg=>isB (C.getD g.toNat ⟨0,0⟩))=none:=by rw[q7];intro g a;rw[c g a];decide
    rw[N,ln (by omega:k<l.length)];have:l[k]'(bA)=y:=by have:=dD (l:=l) (i:=k) bA;rw[m]at this;exact(cQ this).symm
    rw[this,List.find?_cons,o,n];rfl
   rw[this]
  |false=>
   refine dH ⟨⟨k+1,c1,bA,?_,t⟩,by dsimp only;rw[c1];omega⟩;intro g a;rw[fw m]at a;rcases h6.1 a with a|a;·exact c g a
   ·rw[iD]at a;subst a;rw[o];exact n
 ·have:k=l.length:=by omega
  subst this;rw[fN]at c;have:l.find? (λg=>isB (C.getD g.toNat ⟨0,0⟩))=none:=by rw[q7];intro g a;rw[c g a];decide
  rw[this];exact⟨rfl,d⟩
def Q0{l:bU}{k:Nat}{y:Int}(a:l[k]?=some y)(n:Int):dt C (l.take (k+1)) n=iv (dt C (l.take k) n) y λx=> {x with use:=x.use+n} :=by
 rw[fw a];unfold dt;rw[A1];rfl
def Q1{s:Sl}{l:bU}(I:Ints E L s l)(ad:l.length<4611686018427387904)(n:Int)(h:Sep E (c6 b C::L) w):Calls P vJ #[Pb b,Sv s,Iv n] w
  (bW λv w'=>v=.tuple #[Iv (df C l n).2.1,Iv (df C l n).2.2]/\Sep E (c6 b (df C l n).1::L) w'):=by
 apply Y0;unfold Nf qC qD qF qL qO qQ qW;have c:=c6.ok (q:=0) h rfl;have u:=c.try l n;have aw:=I.1;refine Al.i h (λp aB h1=>?_);have Z:Ints E (bE p [Iv n]::c6 b C::L) s l:=I.cons.cons;refine⟨_,h1.cell 0,use (QY Z ad n h1) ?_⟩;rintro _ w2 ⟨rfl,W⟩;refine⟨_,rfl,?_⟩;cases a:iH l n with
 |false=>
  refine eC ?_;have:df C l n=(C, -1,1):=by unfold df;rw[a];rfl
  rw[this];exact⟨rfl,W.tail⟩
 |true=>
  obtain⟨B,V,ax,ay⟩:=l4.1 a;have aa:Ints E (bE p [Iv n]::L) s l:=I.cons;refine dH (use (QZ (L:=bE p [Iv n]::L) (isB:=λx=>decide (0<n)&&decide (x.cf<x.use+n)) aa ad B c ?_ W.swap) ?_)
  ·intro x f k w' hx h';refine⟨DP,_,rfl,by kernel_rfl,?_⟩;show Calls P DP #[.agg #[Iv x.use,Iv x.cf,Iv f,Iv k],Pb p] w' _;apply Zf;unfold Nv qD qL;refine Al.i h' (λp2 am m=>?_);refine⟨_,m.cellAt 2 rfl 0,eW (λag=>?_) (λhle=>⟨by rw[c4 bA];rfl,m.tail⟩)⟩;refine⟨_,by rw[cj];exact m.cell 0,_,m.cellAt 2 rfl 0,_,by rw[cj];exact m.cell 1,?_,m.tail⟩;rw[dh ag,lr,cH (by unfold top at *;omega) (by unfold top at *;omega)]
  ·rintro _ am ⟨rfl,m⟩;refine⟨_,rfl,?_⟩;cases hf:l.find? (λg=>decide (0<n)&&decide ((C.getD g.toNat ⟨0,0⟩).cf<(C.getD g.toNat ⟨0,0⟩).use+n))with
   |some g=>
    have t:=B g (xu hf);have e:df C l n=(C,g,22):=by unfold df;rw[a,hf];rfl
    rw[e];dsimp only;refine hk (λ_=>?_) (λT=>absurd T bA);refine Dr.i m (λan z=>?_);obtain⟨R,d,al,hlen,o⟩:=c6.get z;refine⟨_,rfl,k1 (q:=0) cZ.la o rfl hlen t.1 (by exact_mod_cast t.2) (λr a ae=>?_)⟩;refine⟨_,by rw[cj];exact ae 2 _ rfl,_,rfl,k1 (q:=0) cZ.la o rfl hlen t.1 (by exact_mod_cast t.2) (λaA N ar=>?_)⟩;rw[a]at N;have:=cQ N;subst this;refine um (r':=⟨r.c,i64.wrap (r.failed+1),r.iZ⟩) o a bO rfl (λap S=>⟨rfl,?_⟩);refine(c6.mk (C:=C) ?_ c S).ro 2 [0] rfl;rw[hq,d];show C.set g.toNat r.c=C;apply g6;intro i;by_cases ah:g.toNat=i
    ·subst ah;have:C[g.toNat]?=some r.c:=by rw[<- d,ew,a];rfl
     rw[iM (cT.1 this).1,this]
    ·rw[h4 ah]
   |none=>
    have e:df C l n=(dt C l n, -1,0):=by unfold df;rw[a,hf];rfl
    rw[e]at u ⊢;dsimp only at u ⊢;have U:∀g∈l,(gU C g).use+n<=top:=by
     intro g t;have:=q7.1 hf g t;rw[tg (B g t)]at this;have ho:=c.of g;simp only[dG,gj,not_and]at this;rcases Int.lt_or_le 0 n with hp|hp;·have:=this hp;omega
     ·omega
    have ab:Ints E (bE p [Iv n]::L) s l:=I.cons;refine hk (λT=>absurd T bO) (λ_=>?_);refine⟨λx w'=>∃k:Nat,x=k/\k<=l.length/\∃R:List cZ,R.map cZ.c=dt C (l.take k) n/\Sep E (bE b (bQ cZ.vs R)::bE p [Iv n]::L) w',λx _=>(l.length-x).toNat,?_,?_⟩
    ·obtain⟨R,d,al,hlen,o⟩:=c6.get m;exact⟨0,rfl,ec _,R,by rw[xA];exact d,o⟩
    ·rintro _ x an ⟨k,rfl,az,R,d,z⟩;have J:R.length=64:=by rw[<- eb (f:=cZ.c),d,nw];exact c.len
     refine cL (λav=>?_) (λau=>?_)
     ·obtain⟨y,K⟩:∃y,l[k]?=some y:=⟨_,dL⟩
      have Q:=eu K;have H:=B y Q;have G:fx y=true:=iJ.2 H;refine(ab.cons (A:=bE b (bQ cZ.vs R))).el z k rfl K ⟨_,rfl,k1 (q:=0) cZ.la z rfl J H.1 (by exact_mod_cast H.2) (λr a ae=>?_)⟩;have ak:r.c=gU C y:=by
       rw[<- E3 d G a];have aj:y∉l.take k:=by
        intro hm;have:=V.sublist (oI (k+1) l);rw[fw K,A0]at this;exact this.2.2 y hm y (by simp) rfl
       unfold gU;rw[G,bM rfl,bM rfl,rC n (l.take k) c.len (λg t=>B g (mx t)) (V.sublist (oI k l)) G,bJ aj]
      refine Dr.i z (λao o=>?_);have af:∀(j:Nat) v,(r.vs)[j]?=some v->ao.cell? ⟨b,y.toNat*4+j,none⟩=some v:=by
       intro j v D;have F:j<4:=by have:=(cT.1 D).1;rwa[cZ.la]at this
       rw[o.cell,tR cZ.la a j F];exact D
      refine⟨_,rfl,_,by rw[cj];exact af 0 _ rfl,_,o.cellAt 1 rfl 0,_,rfl,?_⟩;have hw:i64.wrap (r.c.use+n)=r.c.use+n:=by
       have:=U y Q;have ho:=c.of y;rw[ak];unfold top at*
       exact cH bA bA
      rw[hw];refine um (r':=⟨{r.c with use:=r.c.use+n},r.failed,r.iZ⟩) o a bO rfl (λap S=>Dr.i S (λaq X=>?_));have ai:y.toNat<R.length:=(cT.1 a).1;have O:(R.set y.toNat ⟨{r.c with use:=r.c.use+n},r.failed,r.iZ⟩)[y.toNat]?=some ⟨{r.c with use:=r.c.use+n},r.failed,r.iZ⟩:=iM ai;have M:∀(j:Nat) v,(cZ.vs ⟨{r.c with use:=r.c.use+n},r.failed,r.iZ⟩)[j]?=some v->aq.cell? ⟨b,y.toNat*4+j,none⟩=some v:=by
       intro j v D;have F:j<4:=by have:=(cT.1 D).1;rwa[cZ.la]at this
       rw[X.cell,tR cZ.la O j F];exact D
      refine⟨_,rfl,_,by rw[cj];exact M 3 _ rfl,_,rfl,_,by rw[cj];exact M 0 _ rfl,_,rfl,?_⟩;refine um (r':=⟨{r.c with use:=r.c.use+n},r.failed,dy r.iZ (r.c.use+n)⟩) X O bO rfl (λaC Y=>?_);rw[List.set_set]at Y;refine⟨⟨k+1,c1,bA,_,?_,Y⟩,by dsimp only;rw[c1];omega⟩;rw[Q0 K];exact E4 d a (λx=> {x with use:=x.use+n}) rfl
     ·have:k=l.length:=by omega
      subst this;rw[fN]at d;exact⟨rfl,(c6.mk d u z).ro 2 [0] rfl⟩
def Aj{s:Sl}{l:bU}(D:Ints E L s l)(T:l.length<4611686018427387904)(n:Int)(h:Sep E (c6 b C::L) w):Calls P tE #[Pb b,Sv s,Iv n] w
  (bW λv w'=>v=Iv (fJ C l n).2/\Sep E (c6 b (fJ C l n).1::L) w'):=by
 apply W3;unfold Lw qC qD qF qL qO qQ qW;have c:=c6.ok (q:=0) h rfl;have j:=c.di l n;have ad:=D.1;refine Al.i h (λp aj h1=>?_);have O:Ints E (bE p [Iv n]::c6 b C::L) s l:=D.cons.cons;refine⟨_,h1.cell 0,use (QY O T n h1) ?_⟩;rintro _ w2 ⟨rfl,N⟩;refine⟨_,rfl,?_⟩;cases a:iH l n with
 |false=>
  refine eC ?_;have:fJ C l n=(C,1):=by unfold fJ;rw[a];rfl
  rw[this];exact⟨rfl,N.tail⟩
 |true=>
  obtain⟨u,M,ae,af⟩:=l4.1 a;have Q:Ints E (bE p [Iv n]::L) s l:=D.cons;refine dH (use (QZ (L:=bE p [Iv n]::L) (isB:=λx=>decide (x.use<n)) Q T u c ?_ N.swap) ?_)
  ·intro x f k w' hx h';refine⟨C7,_,rfl,by kernel_rfl,?_⟩;show Calls P C7 #[.agg #[Iv x.use,Iv x.cf,Iv f,Iv k],Pb p] w' _;apply XK;unfold Ma qD qL;refine Al.i h' (λp2 Y o=>?_);exact⟨_,by rw[cj];exact o.cell 0,_,o.cellAt 2 rfl 0,rfl,o.tail⟩
  ·rintro _ Y ⟨rfl,o⟩;refine⟨_,rfl,?_⟩;cases hf:l.find? (λg=>decide ((C.getD g.toNat ⟨0,0⟩).use<n))with
   |some g=>
    have z:=u g (xu hf);have e:fJ C l n=(C,2):=by unfold fJ;rw[a,hf];rfl
    rw[e];dsimp only;exact hk (λ_=>⟨rfl,o.ro 2 [0] rfl⟩) (λJ=>absurd J bA)
   |none=>
    have e:fJ C l n=(dt C l (-n),0):=by unfold fJ;rw[a,hf];rfl
    rw[e]at j ⊢;dsimp only at j ⊢;have K:∀g∈l,n<=(gU C g).use:=by
     intro g z;have:=q7.1 hf g z;rw[tg (u g z)]at this;simpa using this
    have S:Ints E (bE p [Iv n]::L) s l:=D.cons;refine hk (λJ=>absurd J bO) (λ_=>?_);refine⟨λx w'=>∃k:Nat,x=k/\k<=l.length/\∃R:List cZ,R.map cZ.c=dt C (l.take k) (-n)/\Sep E (bE b (bQ cZ.vs R)::bE p [Iv n]::L) w',λx _=>(l.length-x).toNat,?_,?_⟩
    ·obtain⟨R,i,ag,hlen,t⟩:=c6.get o;exact⟨0,rfl,ec _,R,by rw[xA];exact i,t⟩
    ·rintro _ x ak ⟨k,rfl,ah,R,i,I⟩;have m:R.length=64:=by rw[<- eb (f:=cZ.c),i,nw];exact c.len
     refine cL (λab=>?_) (λaa=>?_)
     ·obtain⟨y,F⟩:∃y,l[k]?=some y:=⟨_,dL⟩
      have H:=eu F;have d:=u y H;have B:fx y=true:=iJ.2 d;refine(S.cons (A:=bE b (bQ cZ.vs R))).el I k rfl F (Dr.i I (λal t=>⟨_,rfl,k1 (q:=0) cZ.la t rfl m d.1 (by exact_mod_cast d.2) (λr a X=>?_)⟩));have V:r.c=gU C y:=by
       rw[<- E3 i B a];have U:y∉l.take k:=by
        intro hm;have:=M.sublist (oI (k+1) l);rw[fw F,A0]at this;exact this.2.2 y hm y (by simp) rfl
       unfold gU;rw[B,bM rfl,bM rfl,rC (-n) (l.take k) c.len (λg z=>u g (mx z)) (M.sublist (oI k l)) B,bJ U]
      refine⟨_,by rw[cj];exact X 0 _ rfl,_,t.cellAt 1 rfl 0,_,rfl,k1 (q:=0) cZ.la t rfl m d.1 (by exact_mod_cast d.2) (λai G Z=>?_)⟩;rw[a]at G;have:=cQ G;subst this;have hw:i64.wrap (r.c.use-n)=r.c.use+ -n:=by
       have:=K y H;have ho:=c.of y;rw[V];unfold top at*
       rw[cH bA bA];omega
      rw[hw];refine um (r':=⟨{r.c with use:=r.c.use+ -n},r.failed,r.iZ⟩) t a bO rfl (λam W=>?_);refine⟨⟨k+1,c1,bA,_,?_,W⟩,by dsimp only;rw[c1];omega⟩;rw[Q0 F];exact E4 i a (λx=> {x with use:=x.use+ -n}) rfl
     ·have:k=l.length:=by omega
      subst this;rw[fN]at i;exact⟨rfl,(c6.mk i j I).ro 2 [0] rfl⟩
end Go.Mp
namespace Go.Mp
open Go Go.Vc Go.Sp Go.Proofs Go.Kc
variable{E:Env}{L:ch}{w W:World}
def aL0(n:Int):i64.wrap n%18446744073709551616=n%18446744073709551616:=by
 unfold IntKind.wrap;simp only[IntKind.signed,IntKind.bits,lr];split<;>omega
def Q2(n:Int):bV .i64 n 1099511627775=n%1099511627776:=by
 have h1:((BitVec.ofInt 64 n &&& BitVec.ofInt 64 1099511627775).toNat:Int)=n%1099511627776:=by
  rw[uR];have a:(BitVec.ofInt 64 1099511627775).toNat=2^40-1:=by decide
  have b:((BitVec.ofInt 64 n).toNat:Int)=n%18446744073709551616:=by
   rw[BitVec.toNat_ofInt];have:(n%((2:Nat)^64:Nat))=n%18446744073709551616:=rfl;omega
  rw[a,q5];generalize (BitVec.ofInt 64 n).toNat=m at*
  have:((m%2^40:Nat):Int)=(m:Int)%1099511627776:=by omega
  rw[this,b];omega
 show i64.wrap ((BitVec.ofInt 64 n &&& BitVec.ofInt 64 1099511627775).toNat:Int)=_;rw[h1];exact cH bA bA
structure eN where
 clock:Int
 back:Int
def eN.vs(r:eN):List Value:=[Iv r.clock,Iv r.back]
def eN.kD(r:eN):r.vs.length=2:=rfl
def fE(b:Nat)(l:bU):Asn:=e8 λR:List eN=>cC (R.map eN.clock=l/\l.length=64) (bE b (bQ eN.vs R))
def fE.get{b:Nat}{l:bU}(h:Sep E (fE b l::L) w):∃R:List eN,R.map eN.clock=l/\l.length=64/\R.length=64/\Sep E (bE b (bQ eN.vs R)::L) w:=by
 obtain⟨R,h⟩:=Sep.ex.1 h;obtain⟨a,h⟩:=Sep.cC.1 h;exact⟨R,a.1,a.2,by have:=a.2;rw[<- a.1,eb]at this;exact this,h⟩
def fE.mk{b:Nat}{l:bU}{R:List eN}(h1:R.map eN.clock=l)(a:l.length=64)(h:Sep E (bE b (bQ eN.vs R)::L) w):Sep E (fE b l::L) w:=Sep.ex.2 ⟨R,Sep.cC.2 ⟨⟨h1,a⟩,h⟩⟩
def aDT(h:Sep E L w):Calls P Cr #[] w (bW λv w'=>∃p,v=Pb p/\Sep E (fE p (List.replicate 64 0)::L) w'):=by
 apply Wo;unfold K4 qB;exact Al.i h (λp a h1=>⟨p,rfl,fE.mk (R:=List.replicate 64 ⟨0,0⟩) rfl rfl h1⟩)
def E5(g:Int)(w:World):Calls P yW #[Iv g] w (bW λv w'=>v=.bool (fx g)/\w'=w):=by
 apply Y2;unfold Nh fx;exact hN (λh=>⟨by rw[dh h];rfl,rfl⟩) (λh=>⟨by rw[c4 bA];rfl,rfl⟩)
def Q3(h:Sep E L w):Calls P DQ #[] w (bW λv w'=>∃p,v=.slice (some ⟨p,0,none⟩) 3 3/\Sep E (bE p (bD (ints [1,8,40]))::L) w'):=by
 apply Zg;unfold Nw qC;exact Al.i h (λp a h1=>⟨p,rfl,h1⟩)
def Ak{g:Int}(e:fx g=true)(c:Int)(h:Sep E L w):Calls P Ki #[Iv g,Iv c] w (bW λv w'=>v=.int .u64 (if c<0 then 0 else s5 g c)/\Sep E L w'):=by
 apply Y3;unfold Ni qC qJ zB;refine cL (λf=>⟨by rw[bM f],h⟩) (λf=>use (Q3 h) ?_);rintro _ r ⟨p,rfl,h1⟩;obtain⟨n,rfl⟩:∃n:Nat,g=n:=⟨g.toNat,by have:=iJ.1 e;omega⟩
 have o:=(iJ.1 e).2;obtain⟨m,hm⟩:∃m:Nat,c%1099511627776=m:=⟨(c%1099511627776).toNat,bA⟩
 have j:m<1099511627776:=by omega
 refine⟨⟨some ⟨p,0,none⟩,3,3⟩,rfl,Al.i h1 (λq w2 d=>?_)⟩;rw[Q2,hm]at d;have d:Sep E (bE q (bD (ints [1,n,m]))::bE p (bD (ints [1,8,40]))::L) w2:=d;refine use (PI (s:=⟨some ⟨p,0,none⟩,3,3⟩) (t:=⟨some ⟨q,0,none⟩,3,3⟩) (ws:=[1,8,40]) (vs:=[1,n,m]) (Ints.gY (b:=p) (c:=3) (gs:=ints [1,8,40]) (q:=1) rfl) (Ints.gY (b:=q) (c:=3) (gs:=ints [1,n,m]) (q:=0) rfl) bO bO bO rfl (λu hu=>by simp at hu;omega) d) ?_;rintro _ x ⟨l,rfl⟩;rcases l with⟨_,rfl⟩|⟨i,rfl⟩
 ·refine⟨_,_,rfl,?_,d.tail.tail⟩;rw[cM];unfold s5 top;rw[hm];congr 1;simp only[jm];omega
 ·exfalso;apply i;intro k y u a hu
  match k,a,hu with
  |0,a,hu=>simp at a hu;subst a hu;decide
  |1,a,hu=>simp at a hu;subst a hu;omega
  |2,a,hu=>simp at a hu;subst a hu;omega
  |k+3,a,_=>simp at a
def Q4{x:Nat}(hx:x<18446744073709551616)(h:Sep E L w):Calls P DJ #[.int .u64 (x:Nat)] w (bW λv w'=>v=.tuple #[Iv (gM x).1,Iv (gM x).2.1,.bool (gM x).2.2]/\Sep E L w'):=by
 apply Y4;unfold Nj qD qJ qW qg zF;refine use (Q3 h) ?_;rintro _ A ⟨p,rfl,h1⟩;refine⟨⟨some ⟨p,0,none⟩,3,3⟩,rfl,use (PG (s:=⟨some ⟨p,0,none⟩,3,3⟩) (ws:=[1,8,40]) (Ints.gY (b:=p) (c:=3) (gs:=ints [1,8,40]) (q:=0) rfl) bO bO bO hx h1) ?_⟩;have m:cY [1,8,40]=49:=rfl;rw[m];rintro _ w2 (⟨l,t,rfl,n,d⟩|⟨l,rfl,d⟩)
 ·have u:x<562949953421312:=by omega
  have i:t.n=(ints (fields [1,8,40] x)).length:=by rw[n];rfl
  have k:((ints (fields [1,8,40] x)).length:Int)=3:=rfl;refine⟨t,_,rfl,λw'=>w'=w2/\x%2=1,bF rfl ?_,?_⟩
  ·refine kY 0 d rfl i bO bA (λa g=>⟨_,g,?_⟩);show bif(((x%2^1:Nat):Int) !=1)then _ else _;refine gV (λy=>?_) (λhe=>⟨rfl,bA⟩);have e:gM (x:Int)=(0,0,false):=by unfold gM;rw[cM]
   rw[e];exact⟨rfl,d.tail.tail⟩
  ·rintro _ o ⟨rfl,r⟩;refine Dr.i d (λB f=>kY 0 f rfl i bO bA (λa g=>⟨_,g,kY 0 f rfl i bO bA (λz j=>⟨_,j,?_,f.tail.tail⟩)⟩));have e:gM (x:Int)=((x:Int)/2%256,(x:Int)/512,true):=by unfold gM top;rw[eG]
   rw[e];show Value.tuple #[Iv ((x/2^1%2^8:Nat):Int),Iv ((x/2^1/2^8%2^40:Nat):Int),.bool true]=_;rw[show((x/2^1%2^8:Nat):Int)=(x:Int)/2%256 by omega,show((x/2^1/2^8%2^40:Nat):Int)=(x:Int)/512 by omega]
 ·refine⟨⟨none,0,0⟩,_,rfl,λ_=>False,bT rfl ?_,λ_ o hf=>hf.elim⟩;have e:gM (x:Int)=(0,0,false):=by unfold gM top;rw[cM]
  rw[e];exact⟨rfl,d.tail⟩
def aFw{x:Nat}(hx:x<18446744073709551616)(c:Int)(h:Sep E L w):Calls P Kp #[.int .u64 (x:Nat),Iv c] w (bW λv w'=>v=Iv (if(gM x).2.2=false\/c<0 then -1 else(c-(gM x).2.1)%top)/\Sep E L w'):=by
 apply Zh;unfold Nx zO;refine use (Q4 hx h) ?_;rintro _ d ⟨rfl,h1⟩;refine⟨_,_,_,rfl,?_⟩;cases b:(gM (x:Int)).2.2 with
 |false=>exact eC ⟨by rw[bM (.inl rfl)],h1⟩
 |true=>
  refine dH (cL (λa=>⟨by rw[bM (.inr a)],h1⟩) (λa=>⟨?_,h1⟩));rw[bJ (by rintro(e|e);cases e;omega),Q2];have:=aL0 (c-(gM (x:Int)).2.1);unfold top;congr 1;omega
def aGI{x:Nat}(hx:x<18446744073709551616)(c r:Int)(h:Sep E L w):Calls P Kj #[.int .u64 (x:Nat),Iv c,Iv r] w (bW λv w'=>v=.bool ((gM x).2.2&&decide (0<=c)&&decide ((c-(gM x).2.1)%top<=r))/\Sep E L w'):=by
 apply Y5;unfold Nk qQ;refine use (aFw hx c h) ?_;rintro _ f ⟨rfl,h1⟩;refine⟨_,rfl,?_⟩;by_cases a:(gM (x:Int)).2.2=false\/c<0
 ·rw[bM a];refine hN (λb=>absurd b bO) (λ_=>⟨?_,h1⟩);rcases a with a|a;·rw[a];rfl
  ·rw[c4 (show ¬ 0<=c by omega),sN];rfl
 ·rw[bJ a];have e:0<=(c-(gM (x:Int)).2.1)%top:=Hf _ bO;refine hN (λ_=>⟨?_,h1⟩) (λb=>absurd b bA);have d:(gM (x:Int)).2.2=true:=by cases b:(gM (x:Int)).2.2 with|true=>rfl|false=>exact absurd (.inl b) a
  rw[d,dh (show 0<=c by omega)];rfl
variable{b:Nat}{l:bU}
def Q5{R:List eN}{F:bh6}(h:Sep E (bE b (bQ eN.vs R)::L) w){k j:Nat}{r r':eN}{v:Value}(d:R[k]?=some r)(f:j<2)(e:r'.vs=r.vs.set j v)(g:∀a,Sep E (bE b (bQ eN.vs (R.set k r'))::L) a->F a):St ((⟨b,k*2,none⟩:Addr).add j) v F w:=by
 have c:=(cT.1 d).1;rw[cj];refine St.i h ?_ (λa h1=>g a ?_)
 ·rw[oq eN.kD];have:(k+1)*2<=R.length*2:=kv _ c;omega
 ·rw[Eb eN.kD d f e]at h1;exact h1
def Q6{R:List eN}(h1:R.map eN.clock=l){k:Nat}{r:eN}(a:R[k]?=some r):l.getD k 0=r.clock:=by
 rw[<- h1,dK,ew,a];rfl
def aLH(h:Sep E (fE b l::L) w)(g:Int):Calls P J6 #[Pb b,Iv g] w (bW λv w'=>v=.int .u64 (dx l g).2/\Sep E (fE b (dx l g).1::L) w'):=by
 apply YF;unfold MW qF qL zU;refine use (E5 g w) ?_;rintro _ t ⟨rfl,rfl⟩;refine⟨_,rfl,?_⟩;unfold dx;cases k:fx g with
 |false=>exact eC ⟨rfl,h⟩
 |true=>
  have a:=iJ.1 k;obtain⟨R,j,p,hlen,h1⟩:=fE.get h;refine dH ⟨_,rfl,k1 (q:=0) eN.kD h1 rfl hlen a.1 (by exact_mod_cast a.2) (λr i o=>⟨_,by rw[cj];exact o 0 _ rfl,use (Ak k r.clock h1) ?_⟩)⟩;rintro _ w2 ⟨rfl,m⟩;refine⟨_,rfl,Dr.i m (λu f=>⟨_,rfl,k1 (q:=0) eN.kD f rfl hlen a.1 (by exact_mod_cast a.2) (λs c d=>?_)⟩)⟩;rw[i]at c;have:=cQ c;subst this;refine⟨_,by rw[cj];exact d 0 _ rfl,_,rfl,k1 (q:=0) eN.kD f rfl hlen a.1 (by exact_mod_cast a.2) (λs c d=>?_)⟩;refine Q5 (r':=⟨i64.wrap (r.clock+1),r.back⟩) f i bO rfl (λx n=>?_);have e:oS l g=r.clock:=Q6 j i;rw[e];refine⟨rfl,fE.mk ?_ (by rw[bJ bO];simpa using p) n⟩;rw[hq,j];rfl
def aLz(h:Sep E (fE b l::L) w){x:Nat}(hx:x<18446744073709551616)(o r:Int):Calls P J8 #[Pb b,.int .u64 (x:Nat),Iv o,Iv r] w (bW λv w'=>v=.bool (l2 l x r)/\Sep E (fE b l::L) w'):=by
 apply YH;unfold MY qF qL qg zO;refine use (Q4 hx h) ?_;rintro _ A ⟨rfl,h1⟩;refine⟨_,_,_,rfl,?_⟩;unfold l2;refine⟨λw'=>((gM (x:Int)).2.2&&fx (gM (x:Int)).1&&decide (0<=oS l (gM (x:Int)).1)&&decide ((oS l (gM (x:Int)).1-(gM (x:Int)).2.1)%top<=r))=true/\Sep E (fE b l::L) w',?_,?_⟩
 ·cases z:(gM (x:Int)).2.2 with
  |false=>exact eC ⟨rfl,h1⟩
  |true=>
   refine dH (use (E5 _ A) ?_);rintro _ w2 ⟨rfl,rfl⟩;refine⟨_,rfl,?_⟩;cases n:fx (gM (x:Int)).1 with
   |false=>exact eC ⟨rfl,h1⟩
   |true=>
    have a:=iJ.1 n;obtain⟨R,f,j,hlen,u⟩:=fE.get h1;refine dH ⟨_,rfl,k1 (q:=0) eN.kD u rfl hlen a.1 (by exact_mod_cast a.2) (λc g m=>⟨_,by rw[cj];exact m 0 _ rfl,use (aGI hx c.clock r h1) ?_⟩)⟩;rintro _ B ⟨rfl,d⟩;have e:oS l (gM (x:Int)).1=c.clock:=Q6 f g;rw[e,z];refine⟨_,rfl,?_⟩;simp only[lr];cases s:(decide (0<=c.clock)&&decide ((c.clock-(gM (x:Int)).2.1)%top<=r))with
    |false=>exact eC ⟨rfl,d⟩
    |true=>exact dH ⟨rfl,d⟩
 ·rintro _ w2 ⟨s,p⟩;rw[s];refine use (E5 o w2) ?_;rintro _ B ⟨rfl,rfl⟩;refine⟨_,rfl,?_⟩;cases n:fx o with
  |false=>exact dH ⟨rfl,p⟩
  |true=>
   have a:=iJ.1 n;refine eC (Dr.i p (λG d=>?_));obtain⟨R,f,j,hlen,k⟩:=fE.get d;refine⟨_,rfl,k1 (q:=0) eN.kD k rfl hlen a.1 (by exact_mod_cast a.2) (λc g m=>⟨_,by rw[cj];exact m 1 _ rfl,_,rfl,k1 (q:=0) eN.kD k rfl hlen a.1 (by exact_mod_cast a.2) (λF D C=>?_)⟩)⟩;refine Q5 (r':=⟨c.clock,i64.wrap (c.back+1)⟩) k g bO rfl (λH y=>⟨rfl,fE.mk ?_ j y⟩);rw[hq,f];show l.set o.toNat c.clock=l;apply g6;intro i;by_cases t:o.toNat=i
   ·subst t;have:l[o.toNat]?=some c.clock:=by rw[<- f,ew,g];rfl
    rw[iM (cT.1 this).1,this]
   ·rw[h4 t]
end Go.Mp
namespace Go.Mp
open Go Go.Vc Go.Sp Go.Kc
open By
variable{E:Env}{L:ch}{w:World}
def ga(s n:Nat)(X:List UInt8):Asn:=
 e8 λbl:Nat=>cC (X.length=16*n/\n<=1024) (star (bE s [.slice (some ⟨bl,0,none⟩) n n]) (bE bl (gW X)))
def ga.open{s n:Nat}{X:List UInt8}(h:Sep E (ga s n X::L) w):
  ∃bl:Nat,X.length=16*n/\n<=1024/\Sep E (bE s [.slice (some ⟨bl,0,none⟩) n n]::bE bl (gW X)::L) w:=by
 obtain⟨bl,h⟩:=Sep.ex.1 h;obtain⟨⟨h1,a⟩,h⟩:=Sep.cC.1 h;exact⟨bl,h1,a,Sep.star.1 h⟩
def ga.shut{s n bl:Nat}{X:List UInt8}(h1:X.length=16*n)(a:n<=1024)(h:Sep E (bE s [.slice (some ⟨bl,0,none⟩) n n]::bE bl (gW X)::L) w):Sep E (ga s n X::L) w:=
 Sep.ex.2 ⟨bl,Sep.cC.2 ⟨⟨h1,a⟩,Sep.star.2 h⟩⟩
def wx{s n bl:Nat}{X:List UInt8}(i:Int)(h:Sep E (bE s [.slice (some ⟨bl,0,none⟩) n n]::bE bl (gW X)::L) w):
  Calls P tI #[Pb s,Iv i] w (bW λv w'=>w'=w/\v=.pointer (if pg n i then some ⟨bl,16*i.toNat,none⟩else none)):=by
 apply X8;unfold Ms qK qW;refine cw (λb=>?_) (λb=>?_)
 ·simp only[gj]at b;exact⟨rfl,by rw[bJ (λc=>by have:=c.1;omega)]⟩
 ·simp only[uH]at b;refine⟨_,rfl,⟨_,_,_⟩,(h.cell _).trans rfl,?_⟩;refine cw (λa=>?_) (λa=>?_)
  ·simp only[gj]at a;exact⟨rfl,by rw[bJ (λc=>by have:=c.2;omega)]⟩
  ·simp only[uH]at a;refine⟨_,rfl,⟨_,_,_⟩,(h.cell _).trans rfl,_,rfl,⟨bA,by dsimp only;omega⟩,rfl,?_⟩;rw[bM ⟨bA,bA⟩,cj,sO,e5]
def aK1{n:Int}:min1 (dy n 0) 1024=((min (max n 0).toNat 1024:Nat):Int):=by
 unfold min1 dy;split<;>split<;>omega
def aDR(n:Int)(h:Sep E L w):
  Calls P I4 #[Iv n] w (bW λv w'=>∃s,v=Pb s/\Sep E (ga s (min (max n 0).toNat 1024) (List.replicate (16*min (max n 0).toNat 1024) 0)::L) w'):=by
 apply Wv;unfold Lb;rw[aK1];generalize hm:min (max n 0).toNat 1024=m;have c:m<=1024:=by omega
 refine l3.i h (m:=16) (sz:=16) (cG:=16) cr bA bA bA bA (λb d h1=>?_);refine Al.i h1 (λs w2 a=>?_);refine⟨s,rfl,ga.shut (bl:=b) (by simp) c ?_⟩;simp only[dk]at a;rw[sO]at a;exact a
def Q7(l:List UInt8){b o n c q:Nat}{C:List Value}(h:Sep E L w)(f:L[q]?=some (bE b C))(k:l.length=n)(d:∀j (p:j<l.length),C[o+j]?=some (.int .u8 (l[j].toNat:Int))):
  u3 P tx Ci (.slice (some ⟨b,o,none⟩) n c) w (.string ⟨l.toArray⟩):=by
 intro w' g;obtain⟨e,m,q2⟩:=BT (P:=P) (t:=tx) cr;subst k;exact run_convert_bytes_back (P:=P) w' tx Ci e ⟨b,o,none⟩ c l m q2 cr (λi a=>by rw[cj,(h.grow g).cellAt q f];exact d i a)
def Q8{s n:Nat}{X:List UInt8}(i:Int)(h:Sep E (ga s n X::L) w):
  Calls P DE #[Pb s,Iv i] w (bW λv w'=>w'=w/\v=.tuple #[.string (⟨(By.rd n X i).1.toArray⟩:ByteArray),Iv (By.rd n X i).2]):=by
 obtain⟨bl,h1,e,h⟩:=ga.open h;apply YM;unfold M4 qR;refine use (wx i h) ?_;rintro _ f ⟨rfl,rfl⟩;refine⟨_,rfl,?_⟩;by_cases a:pg n i
 ·rw[bM a];refine⟨_,rfl,?_⟩;have c:By.rd n X i=(gN X i,0):=bM a;rw[c];refine⟨_,Q7 (gN X i) (q:=1) h rfl (BY h1 a) (λj d=>?_),rfl,rfl⟩;have b:=d;rw[BY h1 a]at b;rw[vk,<- ob b,dD d];rfl
 ·rw[bJ a];have c:By.rd n X i=([],1):=bJ a;rw[c];exact⟨rfl,rfl⟩
def aBH(t:ByteArray):byteCells t=gW t.data.toList:=rfl
def Q9{s n:Nat}{X:List UInt8}(i:Int)(t:ByteArray)(h:Sep E (ga s n X::L) w):
  Calls P DI #[Pb s,Iv i,.string t] w (bW λv w'=>v=Iv (wr n X i t.data.toList).2/\Sep E (ga s n (wr n X i t.data.toList).1::L) w'):=by
 have e:=h;obtain⟨bl,h1,g,h⟩:=ga.open h;apply Y1;unfold Ng qR;refine use (wx i h) ?_;rintro _ j ⟨rfl,rfl⟩;refine⟨_,rfl,?_⟩;have k:t.data.toList.length=t.size:=rfl;by_cases a:pg n i
 ·rw[bM a];refine dH (cw (λc=>?_) (λc=>?_))
  ·simp only[bne_iff_ne,ne_eq]at c;have:¬ (pg n i/\t.data.toList.length=16):=λd=>by have:=d.2;omega
   have b:wr n X i t.data.toList=(X,1):=bJ this;rw[b];exact⟨rfl,e⟩
  ·simp only[bne_eq_false_iff_eq]at c;have b:wr n X i t.data.toList=(jz X i t.data.toList,0):=bM ⟨a,bA⟩;rw[b];refine⟨_,rfl,?_⟩;have hx:=a.1;have l:=a.2;refine oV.i h.swap (cG:=1) (zs:=[.int .u8 0]) cr bA (by simp;omega) (λj f=>?_);rw[aBH,Ir h1 a bA]at f;exact⟨rfl,ga.shut (BZ h1 a bA) g f.swap⟩
 ·rw[bJ a];have b:wr n X i t.data.toList=(X,1):=bJ (λd=>a d.1);rw[b];exact⟨rfl,e⟩
def bB{n i:Int}{A B:Prop}(h1:n<i->A)(a:i<=n->B):bif decide (n<i)then A else B:=
 cw (λh=>h1 (by simpa using h)) (λh=>a (by simpa using h))
def bG{n i:Int}{A B:Prop}(h1:i<=n->A)(a:n<i->B):bif decide (n≥i)then A else B:=
 cw (λh=>h1 (by simpa using h)) (λh=>a (by simpa using h))
def eW{n i:Int}{A B:Prop}(h1:i<n->A)(a:n<=i->B):bif decide (n>i)then A else B:=
 cw (λh=>h1 (by simpa using h)) (λh=>a (by simpa using h))
def gV{n i:Int}{A B:Prop}(h1:n≠i->A)(a:n=i->B):bif(n !=i)then A else B:=
 cw (λh=>h1 (by simpa using h)) (λh=>a (by simpa using h))
def aDQ{s n:Nat}{X:List UInt8}(i a:Int)(h:Sep E (ga s n X::L) w):
  Calls P Jz #[Pb s,Iv i,Iv a] w (bW λv w'=>w'=w/\v=.tuple #[.int .u8 (gt n X i a).1.toNat,Iv (gt n X i a).2]):=by
 obtain⟨bl,h1,k,h⟩:=ga.open h;apply Xh;unfold LJ qR;refine use (wx i h) ?_;rintro _ l ⟨rfl,rfl⟩;refine⟨_,rfl,?_⟩;by_cases d:pg n i
 ·rw[bM d];obtain⟨hx,j⟩:=d;refine dH (bB (λf=>?_) (λf=>bG (λc=>?_) (λc=>?_)))
  ·have b:gt n X i a=(0,1):=cM;rw[b];exact⟨rfl,rfl⟩
  ·have b:gt n X i a=(0,1):=cM;rw[b];exact⟨rfl,rfl⟩
  ·have b:gt n X i a=(X.getD (16*i.toNat+a.toNat) 0,0):=bM ⟨⟨hx,j⟩,f,c⟩;rw[b];have e:16*i.toNat+a.toNat<X.length:=by omega
   refine⟨_,rfl,_,rfl,⟨f,c⟩,(X[16*i.toNat+a.toNat].toNat:Int),?_,rfl,?_⟩;·rw[cj,h.cellAt 1 rfl,vk,fC,dD e];rfl
   ·simp[List.getD,e]
 ·rw[bJ d];have b:gt n X i a=(0,1):=bJ (λg=>d g.1);rw[b];exact⟨rfl,rfl⟩
def aLg(X:List UInt8)(k:Nat)(b:UInt8):(gW X).set k (.int .u8 b.toNat)=gW (X.set k b):=by simp[gW,hq]
def aDS{s n:Nat}{X:List UInt8}(i a:Int)(b:UInt8)(h:Sep E (ga s n X::L) w):
  Calls P JD #[Pb s,Iv i,Iv a,.int .u8 b.toNat] w (bW λv w'=>v=Iv (pt n X i a b).2/\Sep E (ga s n (pt n X i a b).1::L) w'):=by
 have f:=h;obtain⟨bl,h1,k,h⟩:=ga.open h;apply Xl;unfold LO qR;refine use (wx i h) ?_;rintro _ o ⟨rfl,rfl⟩;refine⟨_,rfl,?_⟩;by_cases e:pg n i
 ·rw[bM e];obtain⟨hx,m⟩:=e;refine dH (bB (λg=>?_) (λg=>bG (λd=>?_) (λd=>?_)))
  ·have c:pt n X i a b=(X,1):=cM;rw[c];exact⟨rfl,f⟩
  ·have c:pt n X i a b=(X,1):=cM;rw[c];exact⟨rfl,f⟩
  ·have c:pt n X i a b=(X.set (16*i.toNat+a.toNat) b,0):=bM ⟨⟨hx,m⟩,g,d⟩;rw[c];refine⟨_,rfl,_,rfl,⟨g,d⟩,?_⟩;rw[cj,fC];refine St.i h.swap (by simp;omega) (λo j=>⟨rfl,?_⟩);rw[aLg]at j;exact ga.shut (by simpa using h1) k j.swap
 ·rw[bJ e];have c:pt n X i a b=(X,1):=bJ (λl=>e l.1);rw[c];exact⟨rfl,f⟩
def aAU{s n:Nat}{X:List UInt8}(i:Int)(h:Sep E (ga s n X::L) w):
  Calls P JV #[Pb s,Iv i] w (bW λv w'=>v=Iv (cl n X i).2/\Sep E (ga s n (cl n X i).1::L) w'):=by
 have d:=h;obtain⟨bl,h1,e,h⟩:=ga.open h;apply Yd;unfold Mx qR;refine use (wx i h) ?_;rintro _ g ⟨rfl,rfl⟩;refine⟨_,rfl,?_⟩;by_cases a:pg n i
 ·rw[bM a];have b:cl n X i=(jz X i zs,0):=bM ⟨a,rfl⟩;rw[b];have hx:=a.1;have j:=a.2;refine dH ⟨_,rfl,?_⟩;refine u5.i (List.replicate 16 0) h.swap rfl rfl (by simp;omega) (λg c=>⟨rfl,?_⟩);have:(List.replicate 16 (0:Int)).map (Value.int .u8)=gW zs:=rfl;rw[this,Ir h1 a rfl]at c;exact ga.shut (BZ h1 a rfl) e c.swap
 ·rw[bJ a];have b:cl n X i=(X,1):=bJ (λf=>a f.1);rw[b];exact⟨rfl,d⟩
end Go.Mp
namespace Go.Proofs
open Go.Shelf
def Tryz.gI:Go.Shelf.Ren:=⟨fun|7=>67|10=>105|n=>n,fun|23=>117|26=>3|3=>118|28=>115|0=>0|27=>114|33=>148|4=>4|n=>n,fun|n=>n⟩
def Tryz.p9:Go.Proofs.SlLaysZI.n7 Tryz.prog Tryz.gI:={
 mixed:=by kernel_rfl
 f7:=⟨Tryz.f67.name,bO,Tryz.func67.trans (eO some cr)⟩
 f10:=⟨Tryz.f105.name,bO,Tryz.func105.trans (eO some cr)⟩
 t0:=Tryz.underlying0
 a0:=Tryz.isAgg0
 z0:=Tryz.sizeOf0
 v0:=Tryz.zeroValue0
 t4:=Tryz.underlying4
 a4:=Tryz.isAgg4
 z4:=Tryz.sizeOf4
 v4:=Tryz.zeroValue4
 t23:=Tryz.underlying117
 a23:=Tryz.isAgg117
 z23:=Tryz.sizeOf117
 v23:=Tryz.zeroValue117
 t26:=Tryz.underlying3
 a26:=Tryz.isAgg3
 z26:=Tryz.sizeOf3
 v26:=Tryz.zeroValue3
 t27:=Tryz.underlying114
 a27:=Tryz.isAgg114
 z27:=Tryz.sizeOf114
 v27:=Tryz.zeroValue114
 t28:=Tryz.underlying115
 a28:=Tryz.isAgg115
 z28:=Tryz.sizeOf115
 v28:=Tryz.zeroValue115
 t33:=Tryz.underlying148
 a33:=Tryz.isAgg148
 z33:=Tryz.sizeOf148
 v33:=Tryz.zeroValue148}
def Tryz.fS:Go.Shelf.Ren:=⟨fun|7=>249|10=>278|n=>n,fun|23=>140|26=>3|3=>239|28=>115|0=>0|27=>114|33=>148|4=>4|n=>n,fun|n=>n⟩
def Tryz.nK:Go.Proofs.SlLaysZI.n7 Tryz.prog Tryz.fS:={
 mixed:=by kernel_rfl
 f7:=⟨Tryz.f249.name,bO,Tryz.func249.trans (eO some cr)⟩
 f10:=⟨Tryz.f278.name,bO,Tryz.func278.trans (eO some cr)⟩
 t0:=Tryz.underlying0
 a0:=Tryz.isAgg0
 z0:=Tryz.sizeOf0
 v0:=Tryz.zeroValue0
 t4:=Tryz.underlying4
 a4:=Tryz.isAgg4
 z4:=Tryz.sizeOf4
 v4:=Tryz.zeroValue4
 t23:=Tryz.underlying140
 a23:=Tryz.isAgg140
 z23:=Tryz.sizeOf140
 v23:=Tryz.zeroValue140
 t26:=Tryz.underlying3
 a26:=Tryz.isAgg3
 z26:=Tryz.sizeOf3
 v26:=Tryz.zeroValue3
 t27:=Tryz.underlying114
 a27:=Tryz.isAgg114
 z27:=Tryz.sizeOf114
 v27:=Tryz.zeroValue114
 t28:=Tryz.underlying115
 a28:=Tryz.isAgg115
 z28:=Tryz.sizeOf115
 v28:=Tryz.zeroValue115
 t33:=Tryz.underlying148
 a33:=Tryz.isAgg148
 z33:=Tryz.sizeOf148
 v33:=Tryz.zeroValue148}
def Tryz.ez:Go.Shelf.Ren:=⟨fun|6=>66|8=>72|9=>104|11=>109|13=>163|12=>162|23=>229|24=>230|14=>220|15=>221|16=>222|17=>223|18=>224|19=>225|20=>226|21=>227|22=>228|25=>267|26=>268|27=>269|28=>270|29=>271|30=>272|31=>295|n=>n,fun|26=>3|28=>115|24=>22|0=>0|3=>3|37=>202|48=>285|50=>174|4=>4|40=>279|39=>278|45=>166|5=>5|9=>9|51=>322|55=>326|57=>345|58=>65|33=>148|n=>n,fun|n=>n⟩
def Tryz.lK:Go.Proofs.SlLaysZI.n6 Tryz.prog Tryz.ez:={
 mixed:=by kernel_rfl
 f6:=⟨Tryz.f66.name,bO,Tryz.func66.trans (eO some cr)⟩
 f8:=⟨Tryz.f72.name,bO,Tryz.func72.trans (eO some cr)⟩
 f11:=⟨Tryz.f109.name,bO,Tryz.func109.trans (eO some cr)⟩
 t0:=Tryz.underlying0
 a0:=Tryz.isAgg0
 z0:=Tryz.sizeOf0
 v0:=Tryz.zeroValue0
 t24:=Tryz.underlying22
 a24:=Tryz.isAgg22
 z24:=Tryz.sizeOf22
 v24:=Tryz.zeroValue22
 t26:=Tryz.underlying3
 a26:=Tryz.isAgg3
 z26:=Tryz.sizeOf3
 v26:=Tryz.zeroValue3
 t28:=Tryz.underlying115
 a28:=Tryz.isAgg115
 z28:=Tryz.sizeOf115
 v28:=Tryz.zeroValue115
 i26:=by kernel_rfl}
def Tryz.me:Go.Shelf.Ren:=⟨fun|5=>104|8=>163|7=>162|19=>229|20=>230|10=>220|11=>221|12=>222|13=>223|14=>224|15=>225|16=>226|17=>227|18=>228|30=>267|31=>268|32=>269|33=>270|34=>271|35=>272|40=>295|n=>n,fun|23=>22|25=>3|3=>3|32=>202|22=>22|0=>0|44=>285|46=>174|4=>4|36=>279|35=>278|41=>166|5=>5|9=>9|53=>322|57=>326|63=>345|64=>65|n=>n,fun|n=>n⟩
def Tryz.qe:Go.Proofs.SlLaysM.n5 Tryz.prog Tryz.me:={
 mixed:=by kernel_rfl
 f5:=⟨Tryz.f104.name,bO,Tryz.func104.trans (eO some cr)⟩
 f7:=⟨Tryz.f162.name,bO,Tryz.func162.trans (eO some cr)⟩
 f8:=Tryz.func163.trans (eO some cr)
 f10:=⟨Tryz.f220.name,bO,Tryz.func220.trans (eO some cr)⟩
 f11:=⟨Tryz.f221.name,bO,Tryz.func221.trans (eO some cr)⟩
 f12:=⟨Tryz.f222.name,bO,Tryz.func222.trans (eO some cr)⟩
 f13:=⟨Tryz.f223.name,bO,Tryz.func223.trans (eO some cr)⟩
 f14:=⟨Tryz.f224.name,bO,Tryz.func224.trans (eO some cr)⟩
 f15:=⟨Tryz.f225.name,bO,Tryz.func225.trans (eO some cr)⟩
 f16:=⟨Tryz.f226.name,bO,Tryz.func226.trans (eO some cr)⟩
 f17:=⟨Tryz.f227.name,bO,Tryz.func227.trans (eO some cr)⟩
 f18:=⟨Tryz.f228.name,bO,Tryz.func228.trans (eO some cr)⟩
 f19:=Tryz.func229.trans (eO some cr)
 f20:=Tryz.func230.trans (eO some cr)
 f30:=⟨Tryz.f267.name,bO,Tryz.func267.trans (eO some cr)⟩
 f31:=Tryz.func268.trans (eO some cr)
 f32:=Tryz.func269.trans (eO some cr)
 f33:=⟨Tryz.f270.name,bO,Tryz.func270.trans (eO some cr)⟩
 f34:=⟨Tryz.f271.name,bO,Tryz.func271.trans (eO some cr)⟩
 f35:=⟨Tryz.f272.name,bO,Tryz.func272.trans (eO some cr)⟩
 f40:=⟨Tryz.f295.name,bO,Tryz.func295.trans (eO some cr)⟩
 t0:=Tryz.underlying0
 a0:=Tryz.isAgg0
 z0:=Tryz.sizeOf0
 v0:=Tryz.zeroValue0
 t3:=Tryz.underlying3
 a3:=Tryz.isAgg3
 z3:=Tryz.sizeOf3
 v3:=Tryz.zeroValue3
 t4:=Tryz.underlying4
 a4:=Tryz.isAgg4
 z4:=Tryz.sizeOf4
 v4:=Tryz.zeroValue4
 t5:=Tryz.underlying5
 a5:=Tryz.isAgg5
 z5:=Tryz.sizeOf5
 v5:=Tryz.zeroValue5
 t9:=Tryz.underlying9
 a9:=Tryz.isAgg9
 z9:=Tryz.sizeOf9
 v9:=Tryz.zeroValue9
 t22:=Tryz.underlying22
 a22:=Tryz.isAgg22
 z22:=Tryz.sizeOf22
 v22:=Tryz.zeroValue22
 t23:=Tryz.underlying22
 a23:=Tryz.isAgg22
 z23:=Tryz.sizeOf22
 v23:=Tryz.zeroValue22
 t25:=Tryz.underlying3
 a25:=Tryz.isAgg3
 z25:=Tryz.sizeOf3
 v25:=Tryz.zeroValue3
 t32:=Tryz.underlying202
 a32:=Tryz.isAgg202
 z32:=Tryz.sizeOf202
 v32:=Tryz.zeroValue202
 t35:=Tryz.underlying278
 a35:=Tryz.isAgg278
 z35:=Tryz.sizeOf278
 v35:=Tryz.zeroValue278
 t36:=Tryz.underlying279
 a36:=Tryz.isAgg279
 z36:=Tryz.sizeOf279
 v36:=Tryz.zeroValue279
 t41:=Tryz.underlying166
 a41:=Tryz.isAgg166
 z41:=Tryz.sizeOf166
 v41:=Tryz.zeroValue166
 t44:=Tryz.underlying285
 a44:=Tryz.isAgg285
 z44:=Tryz.sizeOf285
 v44:=Tryz.zeroValue285
 t46:=Tryz.underlying174
 a46:=Tryz.isAgg174
 z46:=Tryz.sizeOf174
 v46:=Tryz.zeroValue174
 t53:=Tryz.underlying322
 a53:=Tryz.isAgg322
 z53:=Tryz.sizeOf322
 v53:=Tryz.zeroValue322
 t57:=Tryz.underlying326
 a57:=Tryz.isAgg326
 z57:=Tryz.sizeOf326
 v57:=Tryz.zeroValue326
 t63:=Tryz.underlying345
 a63:=Tryz.isAgg345
 z63:=Tryz.sizeOf345
 v63:=Tryz.zeroValue345
 t64:=Tryz.underlying65
 a64:=Tryz.isAgg65
 z64:=Tryz.sizeOf65
 v64:=Tryz.zeroValue65}
end Go.Proofs
namespace Go.Mp
open Go Go.Vc Go.Sp Go.Proofs Go.Shelf
variable{E:Env}{L:ch}{w:World}
def Ra(m:Nat):AnyZI.SortsIn P Tryz.ez Fence.wide m:=
  ⟨λbE off cap d W c a b=>callsIn_wide.2 (AnyM.slices_Sort_int Tryz.qe bE off cap d W c a b),
   λp cap W=>callsIn_wide.2 (AnyM.slices_Sort_int_none Tryz.qe p cap W)⟩
def aKC(a:Option Nat)(W:World):Calls P Cv #[.map a] W λe w'=>e=.returned (.func (.func yG) #[] #[Pb W.heap.size])/\w'=W.alloc (.cells #[.map a] (Tryz.gI.t 23)):=
 (callsIn_wide (n:=5)).1 (AnyZI.keys_in Tryz.p9 Fence.wide 5 trivial rfl a W)
def aAX{mp q:Nat}{f:Int->Option Value}(h:Sep E L w)(O:L[q]?=some (cB mp (Value.int .i64) f)){N:Nat}(F:∀k v,f k=some v->0<=k/\k<N)(I:N<=17592186044416){G:Sl->bh6}(k:∀(s:Sl) (l:bU) (w':World),s.n=l.length->KeysOf f l->Sep E (bC s 1 (bD l)::L) w'->G s w'):
  Calls P Cv #[(.map (some mp))] w λA Q=>∃d:Value,A=.returned d/\Calls P yA #[d] Q λp z=>∃g:Sl,p=.returned (Sv g)/\G g z:=by
 refine(aKC _ w).mono ?_;rintro e S ⟨rfl,rfl⟩;refine⟨_,rfl,?_⟩;have h1:=h.alloc #[.map (some mp)] (Tryz.gI.t 23);have t:(bE w.heap.size [.map (some mp)]::L)[q+1]?=some (cB mp (Value.int .i64) f):=by simpa using O
 obtain⟨D,m,R,u⟩:=cB.owns (kt:=hb) h1 t cr F I;have o:=AnyZI.keys_gives (ρ:=Tryz.gI) {Tryz.p9 with} Fence.wide 2 trivial rfl bA w.heap.size mp N D _ (by simp) (by simp) m;have J:∀args W,(callFunc yG args).run P W=.ok (.enter yG args) W:=enters_of Tryz.func105 cr rfl;have C:∀args W,(callFunc (Tryz.ez.f 9) args).run P W=.ok (.enter (Tryz.ez.f 9) args) W:=enters_of Tryz.func104 cr rfl;have H:=AnyZI.sorted_in Tryz.lK Fence.wide 5 trivial trivial trivial trivial rfl bA (Ra _) C yG #[Pb w.heap.size] trivial J _ _ (by simp[maxLen];omega) bA _ o;refine((callsIn_wide (n:=5)).1 H).mono ?_;rintro e w2 ⟨v,c,rfl,b,a,M,i⟩;obtain⟨r,j⟩:=u c b;have hlen:(c.mergeSort λx y=>decide (x<=y)).length=c.length:=List.length_mergeSort c;rw[<- hlen]at a;obtain⟨s,rfl,K,B⟩:=Ec h1 a i;refine⟨s,rfl,k s _ w2 K ⟨NI r,λk=>?_⟩ (B.fr 1 rfl).tail⟩;rw[(AY _ _).mem_iff];exact j k
def aKB(a:Option Nat)(W:World):Calls P DA #[.map a] W λe w'=>e=.returned (.func (.func yV) #[] #[Pb W.heap.size])/\w'=W.alloc (.cells #[.map a] (Tryz.fS.t 23)):=
 (callsIn_wide (n:=5)).1 (AnyZI.keys_in Tryz.nK Fence.wide 5 trivial rfl a W)
def aAW{mp q:Nat}{f:Int->Option Value}(h:Sep E L w)(O:L[q]?=some (cB mp (Value.int .i64) f)){N:Nat}(F:∀k v,f k=some v->0<=k/\k<N)(I:N<=17592186044416){G:Sl->bh6}(k:∀(s:Sl) (l:bU) (w':World),s.n=l.length->KeysOf f l->Sep E (bC s 1 (bD l)::L) w'->G s w'):
  Calls P DA #[(.map (some mp))] w λA Q=>∃d:Value,A=.returned d/\Calls P yA #[d] Q λp z=>∃g:Sl,p=.returned (Sv g)/\G g z:=by
 refine(aKB _ w).mono ?_;rintro e S ⟨rfl,rfl⟩;refine⟨_,rfl,?_⟩;have h1:=h.alloc #[.map (some mp)] (Tryz.fS.t 23);have t:(bE w.heap.size [.map (some mp)]::L)[q+1]?=some (cB mp (Value.int .i64) f):=by simpa using O
 obtain⟨D,m,R,u⟩:=cB.owns (kt:=hb) h1 t cr F I;have o:=AnyZI.keys_gives (ρ:=Tryz.fS) {Tryz.nK with} Fence.wide 2 trivial rfl bA w.heap.size mp N D _ (by simp) (by simp) m;have J:∀args W,(callFunc yV args).run P W=.ok (.enter yV args) W:=enters_of Tryz.func278 cr rfl;have C:∀args W,(callFunc (Tryz.ez.f 9) args).run P W=.ok (.enter (Tryz.ez.f 9) args) W:=enters_of Tryz.func104 cr rfl;have H:=AnyZI.sorted_in Tryz.lK Fence.wide 5 trivial trivial trivial trivial rfl bA (Ra _) C yV #[Pb w.heap.size] trivial J _ _ (by simp[maxLen];omega) bA _ o;refine((callsIn_wide (n:=5)).1 H).mono ?_;rintro e w2 ⟨v,c,rfl,b,a,M,i⟩;obtain⟨r,j⟩:=u c b;have hlen:(c.mergeSort λx y=>decide (x<=y)).length=c.length:=List.length_mergeSort c;rw[<- hlen]at a;obtain⟨s,rfl,K,B⟩:=Ec h1 a i;refine⟨s,rfl,k s _ w2 K ⟨NI r,λk=>?_⟩ (B.fr 1 rfl).tail⟩;rw[(AY _ _).mem_iff];exact j k
end Go.Mp
namespace Go.Kc
open Go
def Pg.vs(p:Pg):List Value:=[Iv p.kf,Iv p.ki,Iv p.place,Iv p.at_,Iv p.owner,Iv p.refs,Iv p.gen,.bool p.Vo,.bool p.e6]
end Go.Kc
namespace Go.Mp.Tp
open Go Go.Vc Go.Sp Go.Kc Go.Mp
abbrev encI:Int->Value:=Value.int .i64
def fT(k:Int×Int):Value:=.agg #[Iv k.1,Iv k.2]
def Rb(a b:Int×Int)(h:fT a=fT b):a=b:=by
 obtain⟨c,d⟩:=a;obtain⟨b1,b2⟩:=b;simpa[fT]using h
def mg:hM P hb encI:=hM.int cr
def E6:hM P yf fT:=hM.agg (d:=3) (l:=[.int .i64,.int .i64]) Rb cr bO cr (λk=>by
 unfold Typed;rw[show dW P yf=some true by kernel_rfl];exact⟨_,rfl,⟨_,rfl⟩,⟨_,rfl⟩,trivial⟩)
def E7:hM P IX fT:=hM.agg (d:=3) (l:=[.int .i64,.int .i64]) Rb cr bO cr (λk=>by
 unfold Typed;rw[show dW P IX=some true by kernel_rfl];exact⟨_,rfl,⟨_,rfl⟩,⟨_,rfl⟩,trivial⟩)
def hc(S:TS)(a:Int->Nat):Int->Asn:=λid=>match S.pg id with
 |some p=>bE (a id) p.vs
 |none=>emp
def eS(S:TS)(a:Int->Nat):Int->Option Value:=λid=>(S.pg id).map λ_=>.pointer (some ⟨a id,0,none⟩)
def E8(t mp mf ms:Nat)(a:Int->Nat)(S:TS):ch:=
 [bE t [.map (some mp),.map (some mf),.map (some ms),Iv S.next],cB mp encI (eS S a),cB mf fT (λk=>(S.files k).map encI),cB ms fT (λk=>(S.cV k).map encI),eM (hc S a)]
def c0(t:Nat)(S:TS):Asn:=e8 λmp:Nat=>e8 λmf:Nat=>e8 λms:Nat=>e8 λa:Int->Nat=>cA (E8 t mp mf ms a S)
variable{E:Env}{L:ch}{w:World}
def c0.open{t:Nat}{S:TS}(h:Sep E (c0 t S::L) w):∃mp mf ms a,Sep E (bE t [.map (some mp),.map (some mf),.map (some ms),Iv S.next]::cB mp encI (eS S a)::
  cB mf fT (λk=>(S.files k).map encI)::cB ms fT (λk=>(S.cV k).map encI)::eM (hc S a)::L) w:=by
 obtain⟨mp,h⟩:=Sep.ex.1 h;obtain⟨mf,h⟩:=Sep.ex.1 h;obtain⟨ms,h⟩:=Sep.ex.1 h;obtain⟨a,h⟩:=Sep.ex.1 h;exact⟨mp,mf,ms,a,Sep.cA.1 h⟩
def c0.shut{t mp mf ms:Nat}{a:Int->Nat}{S:TS}(h:Sep E (bE t [.map (some mp),.map (some mf),.map (some ms),Iv S.next]::cB mp encI (eS S a)::
  cB mf fT (λk=>(S.files k).map encI)::cB ms fT (λk=>(S.cV k).map encI)::eM (hc S a)::L) w):Sep E (c0 t S::L) w:=
 Sep.ex.2 ⟨mp,Sep.ex.2 ⟨mf,Sep.ex.2 ⟨ms,Sep.ex.2 ⟨a,Sep.cA.2 h⟩⟩⟩⟩
def aMp{t mp q:Nat}{f:Int->Option Value}(h:Sep E L w){i:Nat}{c:List Value}(m:L[i]?=some (bE t c))(d:c[0]?=some (.map (some mp)))(j:L[q]?=some (cB mp (Value.int .i64) f)){N:Nat}(a:∀k v,f k=some v->0<=k/\k<N)(b:N<=17592186044416):
  Calls P vw #[Pb t] w (bW λv w'=>∃(s:Sl) (l:bU),v=Sv s/\s.n=l.length/\KeysOf f l/\Sep E (bC s 1 (bD l)::L) w'):=by
 apply Wh;unfold KW qJ qM qN;refine⟨_,rfl,some mp,by rw[cj,h.cellAt i m];exact d,aAX h j a b (λs l w' g e h1=>?_)⟩;exact⟨s,l,rfl,g,e,h1⟩
def wy(h:Sep E L w):Calls P Ct #[] w (bW λv w'=>∃t,v=Pb t/\Sep E (c0 t TS.zero::L) w'):=by
 apply Wp;unfold K5;refine cB.new (enc:=encI) h (λmp g h1=>cB.new (enc:=fT) h1 (λmf w2 b=>cB.new (enc:=fT) b (λms j c=>Al.i c (λt f d=>?_))));refine⟨t,rfl,c0.shut (mp:=mp) (mf:=mf) (ms:=ms) (a:=λ_=>0) ?_⟩;have e:Sep E (eM (hc TS.zero λ_=>0)::_) f:=eM.nil d (λi=>rfl);exact e.ro 5 [1,4,3,2,0] rfl
def Rc{κ:Type}{enc:κ->Value}{b:Nat}{t kt:TypeId}{g:κ->Option Int}(i:Nat)(h:Sep E L w)(c:L[i]?=some (cB b enc (λk=>(g k).map encI)))(K:hM P kt enc)(d:mQ P t=some (kt,Iv 0))(k:κ):
  gk P t (.map (some b)) (enc k) true w (.tuple #[Iv ((g k).getD 0),.bool (g k).isSome]):=by
 have:=gk.i true i h c K d k;cases a:g k with
 |none=>simpa[a]using this
 |some v=>simpa[a]using this
def r3{b:Nat}{S:TS}{a:Int->Nat}(i:Nat)(h:Sep E L w)(d:L[i]?=some (cB b encI (eS S a)))(k:Int):
  gk P IV (.map (some b)) (Iv k) false w (.pointer ((S.pg k).map λ_=>⟨a k,0,none⟩)):=by
 have:=gk.i false i h d mg (t:=IV) (z:=.pointer none) cr k;unfold eS at this;cases c:S.pg k with
 |none=>simpa[c]using this
 |some v=>simpa[c]using this
def wz{t:Nat}{S:TS}(k:Int×Int)(h:Sep E (c0 t S::L) w):Calls P Dj #[Pb t,fT k] w (bW λv w'=>v=Iv (S.of k)/\Sep E (c0 t S::L) w'):=by
 obtain⟨mp,mf,ms,a,h⟩:=c0.open h;apply X6;unfold Mq qM zZ;refine Al.i h (λp e h1=>Dr.i h1 (λw2 b=>?_));have c:=c0.shut (b.tail);refine⟨_,rfl,some mf,by rw[cj];exact(b.cellAt 1 rfl _).trans rfl,k.1,(b.cellAt 0 rfl _).trans rfl,k.2,by rw[cj];exact(b.cellAt 0 rfl _).trans rfl,_,_,Rc 3 b rfl E6 cr k,?_⟩;unfold TS.of;cases d:S.files k with
 |none=>exact dH ⟨rfl,c⟩
 |some v=>exact eC ⟨rfl,c⟩
def E9{t:Nat}{S:TS}(place at_:Int)(h:Sep E (c0 t S::L) w):Calls P Dp #[Pb t,Iv place,Iv at_] w (bW λv w'=>w'=w/\v=Iv (S.at_ (place,at_))):=by
 obtain⟨mp,mf,ms,a,h⟩:=c0.open h;apply Yg;unfold MC qM;refine⟨_,rfl,some ms,by rw[cj];exact(h.cellAt 0 rfl _).trans rfl,_,_,Rc 3 h rfl E7 cr (place,at_),?_⟩;unfold TS.at_;cases b:S.cV (place,at_)with
 |none=>exact dH ⟨rfl,rfl⟩
 |some v=>exact eC ⟨rfl,rfl⟩
def aK5{S:TS}{a:Int->Nat}{id:Int}{p:Pg}{S':TS}(c:S'.pg=cK S.pg id (some p))(b:Nat)(d:∀j,j≠id->S.pg j≠none->(λj=>if j=id then b else a j) j=a j):hc S' (λj=>if j=id then b else a j)=e2 (hc S a) id (bE b p.vs):=by
 have _:=d;funext j;unfold hc e2;rw[c];unfold cK;by_cases h:j=id;·simp[h]
 ·simp[h]
def aJt{S:TS}{a:Int->Nat}{id:Int}{p:Pg}{S':TS}(c:S'.pg=cK S.pg id (some p))(b:Nat):eS S' (λj=>if j=id then b else a j)=cK (eS S a) id (some (Pb b)):=by
 funext j;unfold eS cK;rw[c];unfold cK;by_cases h:j=id;·simp[h]
 ·simp[h]
def Am{S:TS}{a:Int->Nat}{id:Int}{p:Pg}{S':TS}(b:S'.pg=cK S.pg id (some p)):hc S' a=e2 (hc S a) id (bE (a id) p.vs):=by
 funext j;unfold hc e2;rw[b];unfold cK;by_cases h:j=id;·simp[h]
 ·simp[h]
def Ao{S:TS}{a:Int->Nat}{id:Int}{p q:Pg}{S':TS}(b:S'.pg=cK S.pg id (some p))(c:S.pg id=some q):eS S' a=eS S a:=by
 funext j;unfold eS;rw[b];unfold cK;by_cases h:j=id;·simp[h,c]
 ·simp[h]
def Re{S:TS}{a:Int->Nat}{id:Int}{p:Pg}(h:S.pg id=some p):hc S a id=bE (a id) p.vs:=by unfold hc;rw[h]
def pd{t:Nat}{S:TS}(id:Int)(h:Sep E (c0 t S::L) w):Calls P pU #[Pb t,Iv id] w (bW λv w'=>v=.tuple #[.agg (S.get id).1.vs.toArray,Iv (S.get id).2]/\Sep E (c0 t S::L) w'):=by
 obtain⟨mp,mf,ms,a,h⟩:=c0.open h;apply Wi;unfold KX qM qU qV qY;refine Al.i h (λr i h1=>?_);refine⟨_,rfl,some mp,by rw[cj];exact(h1.cellAt 1 rfl _).trans rfl,_,r3 2 h1 rfl id,?_⟩;have fin:∀ {w2:World} (p:Pg),Sep E (bE r p.vs::c0 t S::L) w2->∀(j:Nat) (v:Value),p.vs[j]?=some v->w2.cell? (Addr.add ⟨r,0,none⟩ j)=some v:=by
  intro w2 p b j v d;rw[cj,b.cell,e5];exact d
 unfold TS.get;cases g:S.pg id with
 |none=>
  refine dH (jt.i (h1.ro 6 [0,1,2,3,4,5] rfl) bO (λw2 b=>?_));have c:Sep E (c0 t S::L) w2:=c0.shut b.tail;have f:=fin Pg.zero (w2:=w2) ((c0.shut (L:=bE r Pg.zero.vs::L) (b.ro 6 [1,2,3,4,5,0] rfl)).swap);exact⟨_,f 0 _ rfl,_,f 1 _ rfl,_,f 2 _ rfl,_,f 3 _ rfl,_,f 4 _ rfl,_,f 5 _ rfl,_,f 6 _ rfl,_,f 7 _ rfl,_,f 8 _ rfl,rfl,c⟩
 |some p=>
  have e:=eM.out (h1.fr 5 rfl) id;rw[Re g]at e;have ld:∀(j:Nat) (v:Value),p.vs[j]?=some v->i.cell? (Addr.add ⟨a id,0,none⟩ j)=some v:=by
   intro j v d;rw[cj,e.cell,e5];exact d
  refine eC ⟨_,rfl,_,ld 0 _ rfl,_,ld 1 _ rfl,_,ld 2 _ rfl,_,ld 3 _ rfl,_,ld 4 _ rfl,_,ld 5 _ rfl,_,ld 6 _ rfl,_,ld 7 _ rfl,_,ld 8 _ rfl,?_⟩;refine jt.i (h1.ro 6 [0,1,2,3,4,5] rfl) (dN 9) (λw2 b=>?_);have c:Sep E (c0 t S::L) w2:=c0.shut b.tail;have f:=fin p (w2:=w2) ((c0.shut (L:=bE r p.vs::L) (b.ro 6 [1,2,3,4,5,0] rfl)).swap);exact⟨_,f 0 _ rfl,_,f 1 _ rfl,_,f 2 _ rfl,_,f 3 _ rfl,_,f 4 _ rfl,_,f 5 _ rfl,_,f 6 _ rfl,_,f 7 _ rfl,_,f 8 _ rfl,rfl,c⟩
def Rf{t mp mf ms q p:Nat}{a:Int->Nat}{S:TS}{kf ki o:Int}{m:List Value}(b:S.pg S.next=none)(h:Sep E (cB mp encI (cK (eS S a) S.next (some (Pb q)))::bE q [Iv kf,Iv ki,Iv 0,Iv 0,Iv o,Iv 0,Iv 0,.bool false,.bool false]::
   bE t [.map (some mp),.map (some mf),.map (some ms),Iv (i64.wrap (S.next+1))]::bE p m::cB mf fT (λk=>(S.files k).map encI)::cB ms fT (λk=>(S.cV k).map encI)::eM (hc S a)::L) w):
  Sep E (c0 t (S.iw kf ki o)::L) w:=by
 have h1:=h.ro 7 [1,6,2,0,4,5,3] rfl;have c:=eM.NH (i:=S.next) h1 (by unfold hc;rw[b]);have d:=aK5 (S:=S) (a:=a) (id:=S.next) (p:=⟨kf,ki,0,0,o,0,0,false,false⟩) (S':=S.iw kf ki o) rfl q (λj l _=>by simp[l]);have e:=aJt (S:=S) (a:=a) (id:=S.next) (p:=⟨kf,ki,0,0,o,0,0,false,false⟩) (S':=S.iw kf ki o) rfl q;have f:e2 (hc S a) S.next (bE q [Iv kf,Iv ki,Iv 0,Iv 0,Iv o,Iv 0,Iv 0,.bool false,.bool false])=hc (S.iw kf ki o) (λj=>if j=S.next then q else a j):=d.symm;rw[f,<- e]at c;have g:=(c.fr 5 rfl).tail;exact c0.shut (S:=S.iw kf ki o) (g.ro 5 [1,2,3,4,0] rfl)
def Ak{t:Nat}{S:TS}(kf ki o:Int)(d:S.pg S.next=none)(h:Sep E (c0 t S::L) w):Calls P Dk #[Pb t,fT (kf,ki),Iv o] w
  (bW λv w'=>v=.tuple #[Iv (S.make kf ki o).2.1,Iv (S.make kf ki o).2.2]/\Sep E (c0 t (S.make kf ki o).1::L) w'):=by
 obtain⟨mp,mf,ms,a,h⟩:=c0.open h;apply X7;unfold Mr qL qM qQ qU zS zZ;refine Al.i h (λp A h1=>?_);refine⟨_,rfl,S.next,by rw[cj];exact(h1.cellAt 1 rfl _).trans rfl,kf,(h1.cellAt 0 rfl _).trans rfl,?_⟩;unfold TS.make;refine cL (λn=>?_) (λn=>?_)
 ·rw[bM n];refine jt.i h1 (dN 2) (λw2 b=>?_);refine⟨_,rfl,S.next,by rw[cj];exact(b.cellAt 1 rfl _).trans rfl,_,rfl,?_⟩;rw[cj];refine St.i b.swap (show 3<4 by decide) (λr f=>Dr.i f (λs c=>?_));refine⟨_,rfl,some mp,by rw[cj];exact(c.cellAt 0 rfl _).trans rfl, -1,(c.cellAt 1 rfl _).trans rfl,S.next,by rw[cj];exact(c.cellAt 1 rfl _).trans rfl,?_⟩;refine Al.i c (λq u i=>?_);refine⟨some mp,by rw[cj];exact(i.cellAt 1 rfl _).trans rfl,rfl,?_⟩;refine mapUpdate.i (i.ro 7 [3,0,1,2,4,5,6] rfl) mg (z:=.pointer none) cr S.next _ (λx g=>⟨rfl,?_⟩);exact Rf d g
 ·rw[cM];refine⟨kf,(h1.cellAt 0 rfl _).trans rfl,ki,by rw[cj];exact(h1.cellAt 0 rfl _).trans rfl,?_⟩;refine use (wz (L:=bE p [Iv kf,Iv ki]::L) (S:=S) (t:=t) (kf,ki) (c0.shut (h1.ro 6 [1,2,3,4,5,0] rfl))) ?_;rintro _ w2 ⟨rfl,b⟩;refine⟨_,rfl,hk (λm=>?_) (λy=>?_)⟩;·rw[bM m];exact⟨rfl,(b.fr 1 rfl).tail⟩
  ·rw[cM];obtain⟨mp,mf,ms,a,b⟩:=c0.open b;refine Dr.i b (λr f=>?_);refine⟨_,rfl,some mf,by rw[cj];exact(f.cellAt 0 rfl _).trans rfl,kf,(f.cellAt 5 rfl _).trans rfl,ki,by rw[cj];exact(f.cellAt 5 rfl _).trans rfl,?_⟩;refine mapUpdate.i (f.ro 6 [2,0,1,3,4,5] rfl) E6 (z:=Iv 0) cr (kf,ki) _ (λs c=>?_);refine⟨_,rfl,S.next,by rw[cj];exact(c.cellAt 1 rfl _).trans rfl,_,rfl,?_⟩;rw[cj];refine St.i c.swap (show 3<4 by decide) (λu i=>Dr.i i (λx g=>?_));refine⟨_,rfl,some mp,by rw[cj];exact(g.cellAt 0 rfl _).trans rfl,kf,(g.cellAt 5 rfl _).trans rfl,ki,by rw[cj];exact(g.cellAt 5 rfl _).trans rfl,?_⟩;refine Al.i g (λq B j=>?_);refine⟨some mp,by rw[cj];exact(j.cellAt 1 rfl _).trans rfl,rfl,?_⟩;refine mapUpdate.i (j.ro 7 [3,0,1,6,2,4,5] rfl) mg (z:=.pointer none) cr S.next _ (λC l=>⟨rfl,?_⟩);have e:(cK (λk=>(S.files k).map encI) (kf,ki) (some (Iv S.next)))= λk=>(cK S.files (kf,ki) (some S.next) k).map encI:=by
    funext k;unfold cK;split<;>rfl
   rw[e]at l;exact Rf (S:={S with files:=cK S.files (kf,ki) (some S.next)}) d l
def c0.bH{mp:Nat}{a:Int->Nat}{S:TS}{id:Int}{p:Pg}{A B C D:Asn}(b:S.pg id=some p)(h:Sep E (A::B::C::D::eM (hc S a)::L) w):Sep E (bE (a id) p.vs::eM (e2 (hc S a) id emp)::A::B::C::D::L) w:=by
 have _:=mp;have h1:=eM.out (h.fr 4 rfl) id;rw[Re b]at h1;exact h1
def aKq{t:Nat}{S:TS}(id n:Int)(h:Sep E (c0 t S::L) w):Calls P JG #[Pb t,Iv id,Iv n] w
  (bW λv w'=>v=.tuple #[Iv (S.bX id n).2.1,Iv (S.bX id n).2.2]/\Sep E (c0 t (S.bX id n).1::L) w'):=by
 have b:=h;obtain⟨mp,mf,ms,a,h⟩:=c0.open h;apply Xo;unfold LR qL qM;refine⟨_,rfl,some mp,by rw[cj];exact(h.cellAt 0 rfl _).trans rfl,_,r3 1 h rfl id,?_⟩;unfold TS.bX;cases j:S.pg id with
 |none=>exact eC ⟨rfl,b⟩
 |some p=>
  refine dH (cL (λh1=>?_) (λh1=>eW (λd=>?_) (λd=>?_)));·dsimp only;rw[bM (.inl h1)];exact⟨rfl,b⟩
  ·dsimp only;rw[bM (.inr (.inl d))];exact⟨rfl,b⟩
  ·have c:=c0.bH (mp:=mp) j h;refine⟨_,rfl,p.refs,by rw[cj];exact(c.cellAt 0 rfl _).trans rfl,cL (λf=>?_) (λf=>?_)⟩;·dsimp only;rw[bM (.inr (.inr f))];exact⟨rfl,b⟩
   ·dsimp only;rw[cM];refine⟨_,rfl,p.refs,by rw[cj];exact(c.cellAt 0 rfl _).trans rfl,_,rfl,?_⟩;refine St.j c (show 5<9 by decide) (λw2 g=>?_);refine⟨_,rfl,i64.wrap (p.refs+n),by rw[cj];exact(g.cellAt 0 rfl _).trans rfl,rfl,?_⟩;have i:=eM.back g;have e:e2 (hc S a) id (bE (a id) (p.vs.set (0+5) (Iv (i64.wrap (p.refs+n)))))=hc (S.cI id {p with refs:=i64.wrap (p.refs+n)}) a:=(Am (S':=S.cI id {p with refs:=i64.wrap (p.refs+n)}) rfl).symm;have k:eS S a=eS (S.cI id {p with refs:=i64.wrap (p.refs+n)}) a:=(Ao rfl j).symm;rw[e,k]at i;exact c0.shut (S:=S.cI id {p with refs:=i64.wrap (p.refs+n)}) (i.ro 5 [1,2,3,4,0] rfl)
def wA{t:Nat}{S:TS}(id:Int)(h:Sep E (c0 t S::L) w):Calls P CV #[Pb t,Iv id] w
  (bW λv w'=>v=Iv (S.drop id).2/\Sep E (c0 t (S.drop id).1::L) w'):=by
 have c:=h;obtain⟨mp,mf,ms,a,h⟩:=c0.open h;apply Xt;unfold LX qL qM zZ;refine⟨_,rfl,some mp,by rw[cj];exact(h.cellAt 0 rfl _).trans rfl,_,r3 1 h rfl id,?_⟩;unfold TS.drop;cases o:S.pg id with
 |none=>exact eC ⟨rfl,c⟩
 |some p=>
  have d:=c0.bH (mp:=mp) o h;refine dH ⟨_,rfl,p.refs,by rw[cj];exact(d.cellAt 0 rfl _).trans rfl,eW (λe=>?_) (λe=>?_)⟩;·dsimp only;rw[bM (.inl e)];exact⟨rfl,c⟩
  ·refine⟨_,rfl,p.place,by rw[cj];exact(d.cellAt 0 rfl _).trans rfl,gV (λf=>?_) (λf=>?_)⟩;·dsimp only;rw[bM (.inr f)];exact⟨rfl,c⟩
   ·dsimp only;rw[cM];refine Dr.i d (λq b=>?_);refine⟨_,rfl,some mf,by rw[cj];exact(b.cellAt 2 rfl _).trans rfl,_,rfl,p.kf,by rw[cj,cj];exact(b.cellAt 0 rfl _).trans rfl,p.ki,by rw[cj,cj];exact(b.cellAt 0 rfl _).trans rfl,?_⟩;refine gE.i (b.ro 6 [4,0,1,2,3,5] rfl) E6 (z:=Iv 0) cr (p.kf,p.ki) (λw2 g=>?_);refine⟨_,rfl,some mp,by rw[cj];exact(g.cellAt 3 rfl _).trans rfl,?_⟩;refine gE.i (g.ro 6 [4,0,1,2,3,5] rfl) mg (z:=.pointer none) cr id (λr i=>⟨rfl,?_⟩);have l:cK (eS S a) id none=eS {S with pg:=cK S.pg id none,files:=cK S.files (p.kf,p.ki) none} a:=by
     funext j;unfold eS cK;dsimp only;split<;>rfl
    have m:(cK (λk=>(S.files k).map encI) (p.kf,p.ki) none)= λk=>(cK S.files (p.kf,p.ki) none k).map encI:=by
     funext k;unfold cK;split<;>rfl
    have n:e2 (hc S a) id emp=hc {S with pg:=cK S.pg id none,files:=cK S.files (p.kf,p.ki) none} a:=by
     funext j;unfold hc e2 cK;dsimp only;split<;>rfl
    rw[l,m,n]at i;exact c0.shut (S:={S with pg:=cK S.pg id none,files:=cK S.files (p.kf,p.ki) none}) ((i.fr 2 rfl).tail.ro 5 [3,0,1,4,2] rfl)
def aBM{t:Nat}{S:TS}(id o:Int)(b:Nat)(h:Sep E (c0 t S::bE b [Iv o]::L) w):Calls P yM #[Pb t,Iv id,.func (.func C3) #[] #[Pb b]] w
  (bW λv w'=>v=Iv (S.own id o).2/\Sep E (c0 t (S.own id o).1::L) w'):=by
 have i:=h;obtain⟨mp,mf,ms,a,h⟩:=c0.open h;apply MA;unfold DY qM;refine⟨_,rfl,some mp,by rw[cj];exact(h.cellAt 0 rfl _).trans rfl,_,r3 1 h rfl id,?_⟩;unfold TS.own;cases f:S.pg id with
 |none=>exact eC ⟨rfl,(i.fr 1 rfl).tail⟩
 |some p=>
  refine dH ⟨C3,_,rfl,by kernel_rfl,?_⟩;have c:=c0.bH (mp:=mp) f h;refine use (K:=λv w'=>v=.tuple #[]/\Sep E (c0 t (S.cI id {p with owner:=o})::L) w') (XF (some ⟨a id,0,none⟩) ⟨b,0,none⟩ ?_) ?_
  ·unfold L5 qD;refine⟨o,(c.cellAt 6 rfl _).trans rfl,_,rfl,?_⟩;refine St.j c (show 4<9 by decide) (λw2 k=>⟨rfl,?_⟩);have d:=eM.back k;have e:e2 (hc S a) id (bE (a id) (p.vs.set (0+4) (Iv o)))=hc (S.cI id {p with owner:=o}) a:=(Am (S':=S.cI id {p with owner:=o}) rfl).symm;have g:eS S a=eS (S.cI id {p with owner:=o}) a:=(Ao rfl f).symm;rw[e,g]at d;exact c0.shut (S:=S.cI id {p with owner:=o}) ((d.fr 5 rfl).tail.ro 5 [1,2,3,4,0] rfl)
  ·rintro v w' ⟨rfl,j⟩;exact⟨rfl,rfl,j⟩
def Rh{t:Nat}{S:TS}(id o:Int)(h:Sep E (c0 t S::L) w):Calls P CG #[Pb t,Iv id,Iv o] w
  (bW λv w'=>v=Iv (S.own id o).2/\Sep E (c0 t (S.own id o).1::L) w'):=by
 apply W1;unfold Lu qC qQ;refine Al.i h (λb c h1=>use (aBM id o b h1.swap) ?_);rintro v w' ⟨rfl,a⟩;exact⟨_,rfl,rfl,a⟩
def aAV{t:Nat}{S:TS}(id:Int)(o:Bool)(b:Nat)(h:Sep E (c0 t S::bE b [.bool o]::L) w):Calls P yM #[Pb t,Iv id,.func (.func Dm) #[] #[Pb b]] w
  (bW λv w'=>v=Iv (S.mark id o).2/\Sep E (c0 t (S.mark id o).1::L) w'):=by
 have i:=h;obtain⟨mp,mf,ms,a,h⟩:=c0.open h;apply MA;unfold DY qM;refine⟨_,rfl,some mp,by rw[cj];exact(h.cellAt 0 rfl _).trans rfl,_,r3 1 h rfl id,?_⟩;unfold TS.mark;cases f:S.pg id with
 |none=>exact eC ⟨rfl,(i.fr 1 rfl).tail⟩
 |some p=>
  refine dH ⟨Dm,_,rfl,by kernel_rfl,?_⟩;have c:=c0.bH (mp:=mp) f h;refine use (K:=λv w'=>v=.tuple #[]/\Sep E (c0 t (S.cI id {p with e6:=o})::L) w') (Yb (some ⟨a id,0,none⟩) ⟨b,0,none⟩ ?_) ?_
  ·unfold Mv qm;refine⟨o,(c.cellAt 6 rfl _).trans rfl,_,rfl,?_⟩;refine St.j c (show 8<9 by decide) (λw2 k=>⟨rfl,?_⟩);have d:=eM.back k;have e:e2 (hc S a) id (bE (a id) (p.vs.set (0+8) (.bool o)))=hc (S.cI id {p with e6:=o}) a:=(Am (S':=S.cI id {p with e6:=o}) rfl).symm;have g:eS S a=eS (S.cI id {p with e6:=o}) a:=(Ao rfl f).symm;rw[e,g]at d;exact c0.shut (S:=S.cI id {p with e6:=o}) ((d.fr 5 rfl).tail.ro 5 [1,2,3,4,0] rfl)
  ·rintro v w' ⟨rfl,j⟩;exact⟨rfl,rfl,j⟩
def Ri{t:Nat}{S:TS}(id:Int)(o:Bool)(h:Sep E (c0 t S::L) w):Calls P CR #[Pb t,Iv id,.bool o] w
  (bW λv w'=>v=Iv (S.mark id o).2/\Sep E (c0 t (S.mark id o).1::L) w'):=by
 apply Xm;unfold LP qQ;refine Al.i h (λb c h1=>use (aAV id o b h1.swap) ?_);rintro v w' ⟨rfl,a⟩;exact⟨_,rfl,rfl,a⟩
def Rj(g:Int×Int->Option Int)(k:Int×Int)(v:Option Int):cK (λk=>(g k).map encI) k (v.map encI)= λx=>(cK g k v x).map encI:=by
 funext x;unfold cK;split<;>rfl
def aJG(g:Int×Int->Option Int)(k:Int×Int):cK (λk=>(g k).map encI) k none= λx=>(cK g k none x).map encI:=Rj g k none
def aJH(g:Int×Int->Option Int)(k:Int×Int)(v:Int):cK (λk=>(g k).map encI) k (some (Value.int .i64 v))= λx=>(cK g k (some v) x).map encI:=Rj g k (some v)
def uo{t:Nat}{S:TS}(id place at_:Int)(h:Sep E (c0 t S::L) w):Calls P adc #[Pb t,Iv id,Iv place,Iv at_] w
  (bW λv w'=>v=Iv (S.put id place at_).2/\Sep E (c0 t (S.put id place at_).1::L) w'):=by
 have d:=h;obtain⟨mp,mf,ms,a,h⟩:=c0.open h;apply Xs;unfold LW qL qM qQ;refine⟨_,rfl,some mp,by rw[cj];exact(h.cellAt 0 rfl _).trans rfl,_,r3 1 h rfl id,?_⟩;unfold TS.put;cases q:S.pg id with
 |none=>exact eC ⟨rfl,d⟩
 |some p=>
  dsimp only;have bad:∀ {r:TS×Int},(place<0\/2<place\/at_<0\/(place=0/\at_≠0))->(Value.int .i64 1=Iv (if place<0\/2<place\/at_<0\/(place=0/\at_≠0)then(S,(1:Int))else r).2/\Sep E (c0 t (if place<0\/2<place\/at_<0\/(place=0/\at_≠0)then(S,(1:Int))else r).1::L) w):=by
   intro r A;rw[bM A];exact⟨rfl,d⟩
  refine dH (cL (λc=>bad (.inl c)) (λB=>eW (λc=>bad (.inr (.inl c))) (λC=>cL (λc=>bad (.inr (.inr (.inl c)))) (λD=>eD (λe=>gV (λc=>bad (.inr (.inr (.inr ⟨e,c⟩)))) (λl=>?_)) (λe=>?_)))));all_goals
   have s:¬ (place<0\/2<place\/at_<0\/(place=0/\at_≠0)):=by omega
   rw[bJ s];refine use (E9 place at_ d) ?_;rintro _ F ⟨rfl,rfl⟩;refine⟨_,rfl,?_⟩;refine hk (λm=>gV (λn=>?_) (λn=>?_)) (λm=>?_);·rw[bM ⟨m,n⟩];exact⟨rfl,d⟩
   all_goals
    rw[cM];have u:=c0.bH (mp:=mp) q h;refine Dr.i u (λw2 f=>?_);refine⟨_,rfl,some ms,by rw[cj];exact(f.cellAt 2 rfl _).trans rfl,_,rfl,p.place,by rw[cj];exact(f.cellAt 0 rfl _).trans rfl,_,rfl,p.at_,by rw[cj];exact(f.cellAt 0 rfl _).trans rfl,?_⟩;refine gE.i (f.ro 6 [5,0,1,2,3,4] rfl) E7 (z:=Iv 0) cr (p.place,p.at_) (λG o=>?_);rw[aJG S.cV (p.place,p.at_)]at o;refine⟨_,rfl,St.j o.swap (show 2<9 by decide) (λH x=>?_)⟩;refine⟨_,rfl,St.j x (show 3<9 by decide) (λI y=>?_)⟩;have i:=eM.back (y.ro 6 [0,2,1,3,4,5] rfl);have fin:∀ {sp:Int×Int->Option Int} {g:World},Sep E (eM (e2 (hc S a) id (bE (a id) ((p.vs.set (0+2) (Iv place)).set (0+3) (Iv at_))))::
      cB ms fT (λk=>(sp k).map encI)::bE t [.map (some mp),.map (some mf),.map (some ms),Iv S.next]::cB mp encI (eS S a)::cB mf fT (λk=>(S.files k).map encI)::L) g->
      Sep E (c0 t {pg:=cK S.pg id (some {p with place:=place,at_:=at_}),files:=S.files,cV:=sp,next:=S.next} ::L) g:=by
     intro sp g b;have e:e2 (hc S a) id (bE (a id) ((p.vs.set (0+2) (Iv place)).set (0+3) (Iv at_)))=hc {pg:=cK S.pg id (some {p with place:=place,at_:=at_}),files:=S.files,cV:=sp,next:=S.next} a:=
      (Am (S':={pg:=cK S.pg id (some {p with place:=place,at_:=at_}),files:=S.files,cV:=sp,next:=S.next}) rfl).symm
     have l:eS S a=eS {pg:=cK S.pg id (some {p with place:=place,at_:=at_}),files:=S.files,cV:=sp,next:=S.next} a:=(Ao rfl q).symm;rw[e,l]at b;exact c0.shut (S:={pg:=cK S.pg id (some {p with place:=place,at_:=at_}),files:=S.files,cV:=sp,next:=S.next}) (b.ro 5 [2,3,4,1,0] rfl)
    refine gV (λj=>?_) (λj=>?_)
    ·refine⟨_,rfl,some ms,by rw[cj];exact(i.cellAt 2 rfl _).trans rfl,?_⟩;refine mapUpdate.i (i.ro 5 [1,0,2,3,4] rfl) E7 (z:=Iv 0) cr (place,at_) _ (λg b=>⟨rfl,?_⟩);rw[aJH (cK S.cV (p.place,p.at_) none) (place,at_) id]at b;rw[bM j];exact fin b.swap
    ·rw[bJ (by simpa using j)];exact⟨rfl,fin i⟩
structure Ap(S:TS)(l:bU):Prop where
 cX:l.Pairwise (· < ·)
 mem:∀k,k∈l↔(S.pg k).isSome=true
def fq(S:TS)(N:Nat):Prop:=∀k,(S.pg k).isSome=true->0<=k/\k<N
def Ap.le{S:TS}{l:bU}{N:Nat}(h:Ap S l)(hf:fq S N):l.length<=N:=
 p0 N l (nT.2 (h.cX.imp (λa he=>bA))) (λx hx=>hf x ((h.mem x).1 hx))
def Fa{t:Nat}{S:TS}{N:Nat}(e:fq S N)(g:N<=17592186044416)(h:Sep E (c0 t S::L) w):
  Calls P vw #[Pb t] w (bW λv w'=>∃(s:Sl) (l:bU),v=Sv s/\s.n=l.length/\Ap S l/\Sep E (bC s 1 (bD l)::c0 t S::L) w'):=by
 obtain⟨mp,mf,ms,a,h⟩:=c0.open h;refine use (aMp (f:=eS S a) h (i:=0) (q:=1) rfl rfl rfl (N:=N) (λk v b=>?_) g) ?_
 ·refine e k ?_;unfold eS at b;cases j:S.pg k with
  |none=>rw[j]at b;cases b
  |some p=>rfl
 ·rintro v n ⟨s,l,rfl,m,c,h1⟩;refine⟨_,rfl,s,l,rfl,m,⟨c.cX,λk=>?_⟩,?_⟩;·rw[c.mem k];unfold eS;cases S.pg k<;>simp
  ·have d:=c0.shut (L:=bC s 1 (bD l)::L) (h1.ro 6 [1,2,3,4,5,0] rfl);exact d.swap
def r4(S:TS)(o id:Int):Bool:=match S.pg id with
 |some p=>p.owner !=o
 |none=>true
def aKs{t:Nat}{S:TS}{N:Nat}(o:Int)(j:fq S N)(y:N<=17592186044416)(h:Sep E (c0 t S::L) w):
  Calls P Jp #[Pb t,Iv o] w (bW λv w'=>∃(s:Sl) (l:bU),v=Sv s/\Ap S l/\s.n=(l.filter λx=> !r4 S o x).length/\Sep E (bC s 1 (bD (l.filter λx=> !r4 S o x))::c0 t S::L) w'):=by
 apply W0;unfold Lt qC qJ qb;refine Al.i h (λc A h1=>Al.i h1 (λd w2 i=>?_));refine⟨_,(i.cellAt 1 rfl _).trans rfl,?_⟩;have n:Sep E (c0 t S::bE d [Iv o]::bE c [Pb t]::L) w2:=i.ro 3 [2,0,1] rfl;refine use (Fa j y n) ?_;rintro _ B ⟨s,l,rfl,z,g,r⟩;refine⟨s,rfl,?_⟩;have hlen:=g.le j;refine use (QA (L:=c0 t S::bE d [Iv o]::bE c [Pb t]::L) (q:=r4 S o) ?_ z bA r) ?_
 ·intro m hm x D hx e;obtain⟨p,hp⟩:=kq.1 ((g.mem x).1 hx);refine⟨JI,_,rfl,by kernel_rfl,?_⟩;refine use (K:=λv w'=>v=.bool (r4 S o x)/\Sep E (bC s 1 (bD m)::c0 t S::bE d [Iv o]::bE c [Pb t]::L) w') (XE x ⟨c,0,none⟩ ⟨d,0,none⟩ ?_) ?_
  ·unfold L4 qD qL qM qb;refine Dr.i e (λF b=>?_);obtain⟨mp,mf,ms,a,f⟩:=c0.open (b.fr 1 rfl);refine⟨_,(b.cellAt 3 rfl _).trans rfl,_,rfl,some mp,by rw[cj];exact(f.cellAt 0 rfl _).trans rfl,_,r3 1 f rfl x,?_⟩;rw[hp];have u:=c0.bH (mp:=mp) hp f;refine⟨_,rfl,p.owner,by rw[cj];exact(u.cellAt 0 rfl _).trans rfl,o,(b.cellAt 2 rfl _).trans rfl,?_,b⟩;unfold r4;rw[hp]
  ·rintro v w' ⟨rfl,b⟩;exact⟨rfl,b⟩
 ·rintro _ C ⟨s',rfl,k,e⟩;have b:=(e.fr 2 rfl).tail;exact⟨s',rfl,s',l,rfl,g,k,(b.fr 2 rfl).tail⟩
end Go.Mp.Tp
namespace Go.Mp
open Go Go.Vc Go.Sp Go.Stab
section
variable{E:Env}{L:ch}{w:World}{s:Sl}{cmp:Value}{lt:Int->Int->Bool}{n:Nat}{R b:Int->Int->Prop}
def k6{A X Y B:bU}{k:Nat}(a:k<X.length):(A++X++Y++B)[A.length+k]?=X[k]? :=by
 rw[dc,dc,k5,eE a]
def k7{A X Y B:bU}{k:Nat}(a:k<Y.length):(A++X++Y++B)[A.length+X.length+k]?=Y[k]? :=by
 have:A.length+X.length+k=(A++X).length+k:=by simp
 rw[this,dc,k5,eE a]
def wo(K:k4 R b lt)(a0:n<1152921504606846976)(ba:s.n=n)(aG:gx E L s cmp lt n):∀(N:Nat) {A X Y B:bU} {w:World},X.length+Y.length<=N->1<=X.length->1<=Y.length->
  X.Pairwise R->Y.Pairwise R->(∀x∈X,∀y∈Y,b x y)->(A++X++Y++B).length=n->Sep E (bC s 1 (bD (A++X++Y++B))::L) w->∀ {a m e:Int},a=A.length->m=A.length+X.length->e=A.length+X.length+Y.length->
  Calls P vL #[Sv s,Iv a,Iv m,Iv e,cmp] w (bW λv w'=>v=.tuple #[]/\∃Z,Z.Perm (X++Y)/\Z.Pairwise R/\Sep E (bC s 1 (bD (A++Z++B))::L) w'):=by
 intro N;induction N with
 |zero=>intro A X Y B w h1 o;omega
 |succ N aS=>
 intro A X Y B w a8 aL aM aq ar am aO h a m e aZ hm he;subst aZ hm he;have hlen:(A++X++Y++B).length=A.length+X.length+Y.length+B.length:=by simp only[da]
 rw[hlen]at aO;have M:s.n=(A++X++Y++B).length:=by omega
 apply Zd;unfold Nt qD qE qI qO qW qg qh zP;rw[cH (n:=(A.length:Int)+X.length-A.length) bA bA,cH (n:=(A.length:Int)+X.length+Y.length-(A.length+X.length)) bA bA];refine eD (λh1=>?_) (λa1=>eD (λo=>?_) (λa2=>?_))
 ·
  obtain⟨x,rfl⟩:∃x,X= [x]:=by
   match X,aL,h1 with
   |[x],_,_=>exact⟨x,rfl⟩
   |_::_::_,_,h=>simp at h;omega
  simp only[lP]at*
  have aA:∀y∈Y,b x y:=λy l=>am x (by simp) y l;refine⟨λi j w=>∃p q:Nat,i=A.length+1+p/\j=A.length+1+q/\p<=q/\q<=Y.length/\(p=0\/∃y,Y[p-1]?=some y/\R y x)/\(Y.length<=q\/∃y,Y[q]?=some y/\R x y)/\Sep E (bC s 1 (bD (A++[x]++Y++B))::L) w,
   λi j _=>(j-i).toNat,⟨0,Y.length,bA,bA,bA,bA,.inl rfl,.inl (dN _),h⟩,?_⟩
  rintro _ i j aV ⟨p,q,rfl,rfl,aB,aJ,G,H,h1⟩;refine cL (λah=>⟨bO,Dr.i h1 (λw2 o=>?_)⟩) (λag=>?_)
  ·have C:((A.length:Int)+1+p+(A.length+1+q))/2=((A.length+1+(p+q)/2:Nat):Int):=by omega
   rw[half,C];have z:(p+q)/2<Y.length:=by omega
   have l:Y[(p+q)/2]?=some (Y[(p+q)/2]'z):=dD z;generalize Y[(p+q)/2]'z=y at l;have aD:y∈Y:=eu l;refine gP (A.length+1+(p+q)/2) o M rfl ((k7 (A:=A) (X:=[x]) (B:=B) z).trans l) (gP (A.length+0) o M bA (by rw[k6 (by simp)];rfl) ?_);refine aG.i bA o (λQ ab f=>?_) (λhf ab f=>?_)
   ·rw[cH bA bA];exact⟨⟨(p+q)/2+1,q,bA,rfl,bA,aJ,.inr ⟨y,by simpa using l,(K.ask x y (aA y aD)).1 Q⟩,H,f⟩,by dsimp only;omega⟩
   ·exact⟨⟨p,(p+q)/2,rfl,bA,bA,bA,G,.inr ⟨y,l,K.no (aA y aD) hf⟩,f⟩,by dsimp only;omega⟩
  ·have W:p=q:=by omega
   subst W;rw[cH (n:=(A.length:Int)+1+p-1) bA bA];have aE:A++[x]++Y++B=A++ins Y 0 x++B:=by simp[ins]
   rw[aE]at h1;refine⟨λk w=>∃t:Nat,k=A.length+t/\t<=p/\Sep E (bC s 1 (bD (A++ins Y t x++B))::L) w,λk _=>(A.length+p-k).toNat,⟨0,bA,bA,h1⟩,?_⟩;rintro _ k w2 ⟨t,rfl,Q,o⟩;have D:s.n=(A++ins Y t x++B).length:=by
    have:=mN Y t x;simp only[da,this];omega
   refine cL (λah=>Dr.i o (λab f=>?_)) (λag=>?_)
   ·rw[cH (n:=(A.length:Int)+t+1) bA bA];have l:Y[t]?=some (Y[t]'bA):=dL;generalize Y[t]'(bA)=y at l;refine gP (A.length+(t+1)) f D bA (by rw[kj bA bA,cM,cM];exact l) ?_;refine gP (A.length+t) f D bA (by rw[kj bA bA,cM,bM rfl]) ?_;refine kh (A.length+t) f D bA bA (λai u=>kh (A.length+t+1) u (by rw[dA];exact D) bA (by rw[dA];omega) (λaK J=>?_));rw[Iq l]at J;exact⟨⟨t+1,bA,bA,J⟩,by dsimp only;omega⟩
   ·have:t=p:=by omega
    subst this;exact⟨trivial,ins Y t x,s6 Y t x,s9 K.ord ar G H,o⟩
 ·
  obtain⟨y,rfl⟩:∃y,Y= [y]:=by
   match Y,aM,o with
   |[y],_,_=>exact⟨y,rfl⟩
   |_::_::_,_,h=>simp at h;omega
  simp only[lP]at*
  have az:∀x∈X,b x y:=λx hx=>am x hx y (by simp);refine⟨λi j w=>∃p q:Nat,i=A.length+p/\j=A.length+q/\p<=q/\q<=X.length/\(p=0\/∃x,X[p-1]?=some x/\R x y)/\(X.length<=q\/∃x,X[q]?=some x/\R y x)/\Sep E (bC s 1 (bD (A++X++[y]++B))::L) w,
   λi j _=>(j-i).toNat,⟨0,X.length,bA,bA,bA,bA,.inl rfl,.inl (dN _),h⟩,?_⟩
  rintro _ i j aV ⟨p,q,rfl,rfl,aB,aJ,G,H,h1⟩;refine cL (λah=>⟨bO,Dr.i h1 (λw2 o=>?_)⟩) (λag=>?_)
  ·have C:((A.length:Int)+p+(A.length+q))/2=((A.length+(p+q)/2:Nat):Int):=by omega
   rw[half,C];have z:(p+q)/2<X.length:=by omega
   have hx:X[(p+q)/2]?=some (X[(p+q)/2]'z):=dD z;generalize X[(p+q)/2]'z=x at hx;have aC:x∈X:=eu hx;refine gP (A.length+X.length+0) o M bA (by rw[k7 (by simp)];rfl) (gP (A.length+(p+q)/2) o M rfl (by rw[k6 z];exact hx) ?_);refine aG.j bA o (λQ ab f=>?_) (λhf ab f=>?_);·exact⟨⟨p,(p+q)/2,rfl,bA,bA,bA,G,.inr ⟨x,hx,(K.ask x y (az x aC)).1 Q⟩,f⟩,by dsimp only;omega⟩
   ·rw[cH bA bA];exact⟨⟨(p+q)/2+1,q,bA,rfl,bA,aJ,.inr ⟨x,by simpa using hx,K.no (az x aC) hf⟩,H,f⟩,by dsimp only;omega⟩
  ·have W:p=q:=by omega
   subst W;have aE:A++X++[y]++B=A++ins X X.length y++B:=by rw[xY];simp
   rw[aE]at h1;refine⟨λk w=>∃t:Nat,k=A.length+t/\p<=t/\t<=X.length/\Sep E (bC s 1 (bD (A++ins X t y++B))::L) w,λk _=>(k-A.length).toNat,⟨X.length,rfl,bA,bA,h1⟩,?_⟩;rintro _ k w2 ⟨t,rfl,Q,a4,o⟩;have D:s.n=(A++ins X t y++B).length:=by
    have:=mN X t y;simp only[da,this];omega
   refine eW (λah=>Dr.i o (λab f=>?_)) (λag=>?_)
   ·obtain⟨O,rfl⟩:∃O,t=O+1:=⟨t-1,bA⟩
    rw[cH (n:=(A.length:Int)+((O+1:Nat):Int)-1) bA bA];have hx:X[O]?=some (X[O]'bA):=dL;generalize X[O]'(bA)=x at hx;refine gP (A.length+O) f D bA (by rw[kj bA bA,eG];exact hx) ?_;refine gP (A.length+(O+1)) f D bA (by rw[kj bA bA,cM,bM rfl]) ?_;refine kh (A.length+O+1) f D bA bA (λai u=>kh (A.length+O) u (by rw[dA];exact D) bA (by rw[dA];omega) (λaK J=>?_));rw[xZ hx]at J;exact⟨⟨O,bA,bA,bA,J⟩,by dsimp only;omega⟩
   ·have:t=p:=by omega
    subst this;exact⟨trivial,ins X t y,(s6 X t y).trans (lO (l₁:=[y]) (l₂:=X)),s9 K.ord aq G H,o⟩
 ·
  refine⟨bO,?_⟩;obtain⟨d,a9⟩:∃d,d=(X.length+Y.length)/2:=⟨_,rfl⟩
  have aI:((A.length:Int)+(A.length+X.length+Y.length))/2=((A.length+d:Nat):Int):=by omega
  rw[half,aI];rw[cH (n:=((A.length+d:Nat):Int)+(A.length+X.length)) bA bA];rw[cH (n:=((A.length+d:Nat):Int)+(A.length+X.length)-(A.length+X.length+Y.length)) bA bA];rw[cH (n:=((A.length+d:Nat):Int)+(A.length+X.length)-1) bA bA];obtain⟨aa,V⟩:∃aa,aa=if X.length>d then d-Y.length else 0:=⟨_,rfl⟩
  obtain⟨S,U⟩:∃S,S=if X.length>d then d else X.length:=⟨_,rfl⟩
  have au:aa<=S/\S<=d/\S<=X.length/\d<=aa+Y.length:=by
   rw[V,U];split<;>omega
  refine⟨λi j w=>i=A.length+aa/\j=A.length+S/\Sep E (bC s 1 (bD (A++X++Y++B))::L) w,?_,?_⟩
  ·refine eW (λa3=>?_) (λhle=>?_)
   ·refine⟨?_,?_,h⟩;·rw[V,eG];omega
    ·rw[U,eG];omega
   ·refine⟨?_,?_,h⟩;·rw[V,cM];omega
    ·rw[U,cM]
  rintro _ i0 bb aV ⟨rfl,rfl,h1⟩;refine⟨λi j w=>∃p q:Nat,i=A.length+p/\j=A.length+q/\aa<=p/\p<=q/\q<=S/\(p=aa\/∃x y,X[p-1]?=some x/\Y[d-p]?=some y/\R x y)/\(q=S\/∃x y,Y[d-q-1]?=some y/\X[q]?=some x/\R y x)/\
    Sep E (bC s 1 (bD (A++X++Y++B))::L) w,λi j _=>(j-i).toNat,⟨aa,S,rfl,rfl,dN _,au.1,dN _,.inl rfl,.inl rfl,h1⟩,?_⟩
  rintro _ i j w2 ⟨p,q,rfl,rfl,aP,aB,aQ,G,H,o⟩;refine cL (λah=>⟨bO,Dr.i o (λab f=>?_)⟩) (λag=>?_)
  ·have C:((A.length:Int)+p+(A.length+q))/2=((A.length+(p+q)/2:Nat):Int):=by omega
   rw[half,C];rw[cH (n:=((A.length+d:Nat):Int)+(A.length+X.length)-1-((A.length+(p+q)/2:Nat):Int)) bA bA];obtain⟨c,aN⟩:∃c,c=(p+q)/2:=⟨_,rfl⟩
   rw[<- aN];have ae:c<X.length:=by omega
   have af:d-1-c<Y.length:=by omega
   have hx:X[c]?=some (X[c]'ae):=dD ae;have l:Y[d-1-c]?=some (Y[d-1-c]'af):=dD af;generalize X[c]'ae=x at hx;generalize Y[d-1-c]'af=y at l;have an:=am x (eu hx) y (eu l);refine gP (A.length+X.length+(d-1-c)) f M bA (by rw[k7 af];exact l) (gP (A.length+c) f M bA (by rw[k6 ae];exact hx) ?_);refine aG.j bA f (λQ ai u=>?_) (λhf ai u=>?_)
   ·refine⟨⟨p,c,rfl,bA,aP,bA,bA,G,.inr ⟨x,y,?_,hx,(K.ask x y an).1 Q⟩,u⟩,by dsimp only;omega⟩;rw[show d-c-1=d-1-c by omega];exact l
   ·rw[cH bA bA];refine⟨⟨c+1,q,bA,rfl,bA,bA,aQ,.inr ⟨x,y,by simpa using hx,?_,K.no an hf⟩,H,u⟩,by dsimp only;omega⟩;rw[show d-(c+1)=d-1-c by omega];exact l
  ·have W:p=q:=by omega
   subst W;obtain⟨t,Q⟩:∃t,t=d-p:=⟨_,rfl⟩
   have ao:=x1 K.ord (X:=X) (Y:=Y) (i:=p) (j:=t) aq ar (by
    rcases G with e|⟨x,y,I,ad,aj⟩
    ·by_cases ap:X.length>d;·rw[bM ap]at V;right;left;omega
     ·rw[bJ ap]at V;left;omega
    ·exact .inr (.inr ⟨x,y,I,by rw[Q];exact ad,aj⟩)) (by
    rcases H with e|⟨x,y,I,ad,aj⟩
    ·by_cases ap:X.length>d;·rw[bM ap]at U;left;omega
     ·rw[bJ ap]at U;right;left;omega
    ·exact .inr (.inr ⟨x,y,by rw[Q];exact I,ad,aj⟩))
   have aT:(X.take p).length=p:=by simp;omega
   have aU:(Y.take t).length=t:=by simp;omega
   have a5:(X.drop p).length=X.length-p:=by simp
   have a6:(Y.drop t).length=Y.length-t:=by simp
   have aH:i64.wrap (((A.length+d:Nat):Int)+(A.length+X.length)-(A.length+p))=((A.length+X.length+t:Nat):Int):=by
    rw[cH bA bA];omega
   rw[aH];refine⟨λw=>Sep E (bC s 1 (bD (A++(X.take p++Y.take t)++(X.drop p++Y.drop t)++B))::L) w,?_,?_⟩
   ·refine⟨λc w=>c=decide (p<X.length/\0<t)/\Sep E (bC s 1 (bD (A++X++Y++B))::L) w,?_,?_⟩
    ·refine cL (λg=>⟨?_,o⟩) (λg=>⟨?_,o⟩)
     ·have:(decide ((A.length:Int)+X.length<((A.length+X.length+t:Nat):Int)))=decide (0<t):=by
       by_cases r:0<t;·rw[dh r,dh bA]
       ·rw[c4 r,c4 bA]
      rw[this];by_cases r:0<t;·rw[dh r,dh ⟨bA,r⟩]
      ·rw[c4 r,c4 (λC=>r C.2)]
     ·exact(c4 (λC=>bA)).symm
    rintro _ c ab ⟨rfl,f⟩;refine cw (λg=>?_) (λg=>?_)
    ·have g:=jL g;have I:A++X++Y++B=(A++X.take p)++X.drop p++Y.take t++(Y.drop t++B):=by
      simp only[dc];rw[<- dc (Y.take t),fA,<- dc (X.take p),fA]
     rw[I]at f;refine use (EP (cmp:=cmp) bA bA (by rw[<- I];exact M) (by rw[<- I];omega) f (by simp only[da];omega) (by simp only[da];omega) (by simp only[da];omega)) ?_;rintro _ ai ⟨rfl,u⟩;refine⟨rfl,?_⟩;have ad:(A++X.take p)++Y.take t++X.drop p++(Y.drop t++B)=A++(X.take p++Y.take t)++(X.drop p++Y.drop t)++B:=by simp
     rw[<- ad];exact u
    ·have g:=jo g;have ad:A++(X.take p++Y.take t)++(X.drop p++Y.drop t)++B=A++X++Y++B:=by
      by_cases r:p<X.length
      ·have:t=0:=by omega
       subst this;simp only[xA,hF,sM,dc];rw[<- dc (X.take p),fA]
      ·have aj:X.drop p= []:=jJ bA;have aX:X.take p=X:=hE bA;rw[aj,aX,lR];simp only[dc];rw[<- dc (Y.take t),fA]
     rw[ad];exact f
   rintro _ ab f;have aw:(X.take p).Pairwise R:=aq.sublist (oI _ _);have av:(X.drop p).Pairwise R:=aq.sublist (G4 _ _);have ay:(Y.take t).Pairwise R:=ar.sublist (oI _ _);have ax:(Y.drop t).Pairwise R:=ar.sublist (G4 _ _);refine⟨λw=>∃F,F.Perm (X.take p++Y.take t)/\F.Pairwise R/\Sep E (bC s 1 (bD (A++F++(X.drop p++Y.drop t)++B))::L) w,?_,?_⟩
   ·refine⟨λc w=>c=decide (0<p/\0<t)/\Sep E (bC s 1 (bD (A++(X.take p++Y.take t)++(X.drop p++Y.drop t)++B))::L) w,?_,?_⟩
    ·refine cL (λg=>⟨?_,f⟩) (λg=>⟨?_,f⟩)
     ·by_cases r:0<t;·rw[dh bA,dh ⟨bA,r⟩]
      ·rw[c4 bA,c4 (λC=>r C.2)]
     ·exact(c4 (λC=>bA)).symm
    rintro _ c ai ⟨rfl,u⟩;refine cw (λg=>?_) (λg=>?_)
    ·have g:=jL g;have I:A++(X.take p++Y.take t)++(X.drop p++Y.drop t)++B=A++X.take p++Y.take t++((X.drop p++Y.drop t)++B):=by simp
     rw[I]at u;refine use (aS bA bA bA aw ay (λx hx y l=>am x (mx hx) y (mx l)) (by simp only[da];omega) u rfl bA bA) ?_;rintro _ aK ⟨rfl,F,T,al,J⟩;refine⟨rfl,F,T,al,?_⟩;rw[dc (A++F)];exact J
    ·have g:=jo g;refine⟨_,.refl _,?_,u⟩;by_cases r:0<p
     ·have:t=0:=by omega
      subst this;simpa using aw
     ·have:p=0:=by omega
      subst this;simpa using ay
   rintro _ ai ⟨F,T,ak,u⟩;have a7:F.length=d:=by rw[T.length_eq,da,aT,aU];omega
   refine⟨λc w=>c=decide (p<X.length/\t<Y.length)/\Sep E (bC s 1 (bD (A++F++(X.drop p++Y.drop t)++B))::L) w,?_,?_⟩
   ·refine cL (λg=>⟨?_,u⟩) (λg=>⟨?_,u⟩)
    ·by_cases r:t<Y.length;·rw[dh bA,dh ⟨bA,r⟩]
     ·rw[c4 bA,c4 (λC=>r C.2)]
    ·exact(c4 (λC=>bA)).symm
   rintro _ c aK ⟨rfl,J⟩;refine cw (λg=>?_) (λg=>?_)
   ·have g:=jL g;have I:A++F++(X.drop p++Y.drop t)++B=(A++F)++X.drop p++Y.drop t++B:=by simp
    rw[I]at J;refine use (aS bA bA bA av ax (λx hx y l=>am x (uL hx) y (uL l)) (by simp only[da];omega) J (by simp only[da];omega) (by simp only[da];omega) (by simp only[da];omega)) ?_;rintro _ bc ⟨rfl,aW,al,aF,aY⟩;have:=jv T al ak aF ao;refine⟨rfl,rfl,F++aW,this.1,this.2,?_⟩;rw[<- dc A];exact aY
   ·have g:=jo g;have aR:(X.drop p++Y.drop t).Pairwise R:=by
     by_cases r:p<X.length
     ·have:Y.drop t= []:=jJ bA;rw[this,hF];exact av
     ·have:X.drop p= []:=jJ bA;rw[this,lR];exact ax
    have:=jv T (.refl _) ak aR ao;refine⟨rfl,F++(X.drop p++Y.drop t),this.1,this.2,?_⟩;rw[<- dc A];exact J
end
end Go.Mp
