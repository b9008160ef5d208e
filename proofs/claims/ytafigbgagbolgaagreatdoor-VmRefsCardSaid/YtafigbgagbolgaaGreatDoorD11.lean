/- A part of the proof. -/
import Derived.Test.YtafigbgagbolgaaGreatDoorD10
import Derived.Shelf.SlIterI.Nil
import Derived.Shelf.SortM.Plain
import Derived.Shelf.SortM.SortNone
import Derived.Test.YtafigbgagbolgaaGreatDoorProg
set_option linter.all false
set_option maxRecDepth 100000
open Go.IntKind(i64 u64)
open Go.Proofs.Tryz
namespace Go.Mp
open Go Go.Vc Go.Sp Go.Proofs Go.Kc
variable{E:Env}{L:cr}{w W:bI}
structure c9 where
 c:eZ
 failed:Int
 jA:Int
def c9.vs(r:c9):bA bH:=[Iv r.c.use,Iv r.c.cJ,Iv r.failed,Iv r.jA]
def c9.lT(r:c9):r.vs.length=4:=rfl
def de(b:Nat)(C:bA eZ):Asn:=fo λR:bA c9=>cL (R.map c9.c=C/\hP C) (bD b (bO c9.vs R))
def de.get{b:Nat}{C:bA eZ}(h:Sep E (de b C::L) w):∃R:bA c9,R.map c9.c=C/\hP C/\R.length=64/\Sep E (bD b (bO c9.vs R)::L) w:=by
 obtain⟨R,h⟩:=Sep.ex.1 h;obtain⟨hn,h⟩:=Sep.cL.1 h;refine⟨R,hn.1,hn.2,?_,h⟩;have:=hn.2.len;rw[<- hn.1,dY]at this;exact this
def de.mk{b:Nat}{C:bA eZ}{R:bA c9}(h1:R.map c9.c=C)(h2:hP C)(h:Sep E (bD b (bO c9.vs R)::L) w):Sep E (de b C::L) w:=Sep.ex.2 ⟨R,Sep.cL.2 ⟨⟨h1,h2⟩,h⟩⟩
def de.ok{b:Nat}{C:bA eZ}{q:Nat}(h:Sep E L w)(a:L[q]?=some (de b C)):hP C:=let ⟨_,_,h2,_⟩:=de.get (h.fr q a);h2
def Fj(g:Int)(w:bI):Calls P yL #[Iv g] w (cC λv w'=>v=.bool (gg g)/\w'=w):=by
 apply WU;unfold Lz gg;exact ij (λh=>⟨by rw[dK h];rfl,rfl⟩) (λh=>⟨by rw[dq bu];rfl,rfl⟩)
def Rf(g:Int)(w:bI):Calls P Dm #[Iv g] w (cC λv w'=>v=.bool (g6 g)/\w'=w):=by
 apply X6;unfold My g6 top;exact ij (λh=>⟨by rw[dK h];rfl,rfl⟩) (λh=>⟨by rw[dq bu];rfl,rfl⟩)
variable{b:Nat}{C:bA eZ}
def Fk{R:bA c9}(h1:R.map c9.c=C){g:Int}(a:gg g=true){r:c9}(hr:R[g.toNat]?=some r):hO C g=r.c:=by
 unfold hO;rw[a,bK rfl,<- h1,dC,ez,hr];rfl
def wA{q:Nat}(h:Sep E L w)(l:L[q]?=some (de b C))(g:Int):Calls P CJ #[Pb b,Iv g] w
  (cC λv w'=>∃f k:Int,v=.agg #[Iv (hO C g).use,Iv (hO C g).cJ,Iv f,Iv k]/\Sep E L w'):=by
 apply WM;unfold Ls qA qF qU;refine Al.i h (λp m h1=>use (Fj g m) ?_);rintro _ w2 ⟨rfl,rfl⟩;refine⟨_,rfl,?_⟩;cases i:gg g with
 |false=>
  refine eM (ey _ h1 rfl (λn a=>⟨_,by rw[cj,a.cell];rfl,_,by rw[cj,a.cell];rfl,_,by rw[cj,a.cell];rfl,_,by rw[cj,a.cell];rfl,?_⟩));have e:hO C g=⟨0,0⟩:=by unfold hO;rw[i];rfl
  rw[e];exact⟨0,0,rfl,a.tail⟩
 |true=>
  obtain⟨R,j,o,hlen,h2⟩:=de.get (h1.fr (q+1) (by simpa using l));have d:=j1.1 i;refine dQ ⟨_,rfl,lL (q:=0) c9.lT h2 rfl hlen d.1 (by exact_mod_cast d.2) (λr hr c=>?_)⟩;refine⟨_,by rw[cj];exact c 0 _ rfl,_,by rw[cj];exact c 1 _ rfl,_,by rw[cj];exact c 2 _ rfl,_,by rw[cj];exact c 3 _ rfl,?_⟩;refine ey _ h1 rfl (λn a=>⟨_,by rw[cj,a.cell];rfl,_,by rw[cj,a.cell];rfl,_,by rw[cj,a.cell];rfl,_,by rw[cj,a.cell];rfl,?_⟩);rw[Fk j i hr];exact⟨_,_,rfl,a.tail⟩
def Aq{q:Nat}(h:Sep E L w)(a:L[q]?=some (de b C))(g:Int):Calls P yt #[Pb b,Iv g] w (cZ E (Iv (c0 C g)) L):=by
 apply WB;unfold Li qH;refine use (wA h a g) ?_;rintro _ c ⟨f,k,rfl,h1⟩;exact⟨_,_,_,_,rfl,rfl,h1⟩
def aJ5{q:Nat}(h:Sep E L w)(a:L[q]?=some (de b C))(g:Int):Calls P KG #[Pb b,Iv g] w (cZ E (Iv (hy C g)) L):=by
 apply Zj;unfold Nz qH;refine use (wA h a g) ?_;rintro _ c ⟨f,k,rfl,h1⟩;exact⟨_,_,_,_,rfl,rfl,h1⟩
def Fl{R:bA c9}(h1:R.map c9.c=C){g:Int}{r r':c9}(hr:R[g.toNat]?=some r)(f:eZ->eZ)(hf:r'.c=f r.c):(R.set g.toNat r').map c9.c=iR C g f:=by
 unfold iR;have:C.getD g.toNat ⟨0,0⟩=r.c:=by rw[<- h1,dC,ez,hr];rfl
 rw[this,<- hf,<- h1,hT]
def ub{R:bA c9}{F:bi9}(h:Sep E (bD b (bO c9.vs R)::L) w){k j:Nat}{r r':c9}{v:bH}(hr:R[k]?=some r)(e:j<4)(d:r'.vs=r.vs.set j v)(f:∀a,Sep E (bD b (bO c9.vs (R.set k r'))::L) a->F a):St ((⟨b,k*4,none⟩:Addr).add j) v F w:=by
 have c:=(c2.1 hr).1;rw[cj];refine St.i h ?_ (λa h1=>f a ?_)
 ·rw[oD c9.lT];have:(k+1)*4<=R.length*4:=k2 _ c;omega
 ·rw[Et c9.lT hr e d]at h1;exact h1
def Rh(h:Sep E (de b C::L) w)(g n:Int):Calls P CV #[Pb b,Iv g,Iv n] w
  (cZ E (Iv (km C g n).2) (de b (km C g n).1::L)):=by
 apply Xp;unfold LW qF qg;have a:=(de.ok (q:=0) h rfl).kM g n;unfold km at a ⊢;refine⟨λw'=>w'=w/\gg g=true/\g6 n=true,use (Fj g w) ?_,?_⟩
 ·rintro _ i ⟨rfl,rfl⟩;refine⟨_,rfl,?_⟩;cases d:gg g with
  |false=>exact eM ⟨rfl,h⟩
  |true=>
   refine dQ (use (Rf n i) ?_);rintro _ w2 ⟨rfl,rfl⟩;refine⟨_,rfl,?_⟩;cases hn:g6 n with
   |false=>exact eM ⟨rfl,h⟩
   |true=>exact dQ ⟨rfl,rfl,rfl⟩
 ·rintro _ w2 ⟨rfl,d,hn⟩;rw[d,hn]at a ⊢;obtain⟨R,f,j,hlen,h2⟩:=de.get h;have c:=j1.1 d;refine⟨_,rfl,lL (q:=0) c9.lT h2 rfl hlen c.1 (by exact_mod_cast c.2) (λr hr k=>?_)⟩;exact ub (r':=⟨{r.c with cJ:=n},r.failed,r.jA⟩) h2 hr bN rfl (λl e=>⟨rfl,de.mk (Fl f hr (λx=> {x with cJ:=n}) rfl) a e⟩)
def aBb(h:Sep E L w):Calls P Jr #[] w (cC λv w'=>∃p,v=Pb p/\Sep E (de p mH::L) w'):=by
 apply WT;unfold Ly qO qz;refine Al.i h (λp d h1=>?_);have h1:Sep E (bD p (bO c9.vs (List.replicate 64 ⟨⟨0,0⟩,0,0⟩))::L) d:=h1;refine⟨λx w'=>∃j:Nat,x=j/\j<=64/\Sep E (bD p (bO c9.vs (List.replicate j ⟨⟨0,top⟩,0,0⟩++List.replicate (64-j) ⟨⟨0,0⟩,0,0⟩))::L) w',λx _=>(64-x).toNat,⟨0,rfl,bu,h1⟩,?_⟩;rintro _ x w2 ⟨j,rfl,i,h2⟩;refine cU (λb=>?_) (λf=>?_)
 ·have b:j<64:=by omega
  refine⟨_,rfl,lL (q:=0) c9.lT h2 rfl (by simp;omega) bu bu (λr hr g=>?_)⟩;rw[dt]at hr ⊢;have c:r=⟨⟨0,0⟩,0,0⟩:=by
   rw[fL (by simp),mW,iE,oh,eV]at hr;exact(cV hr).symm
  subst c;refine ub (r':=⟨⟨0,top⟩,0,0⟩) h2 hr bN rfl (λk a=>?_);have e:(List.replicate j (⟨⟨0,top⟩,0,0⟩:c9)++List.replicate (64-j) (⟨⟨0,0⟩,0,0⟩:c9)).set j (⟨⟨0,top⟩,0,0⟩:c9)=List.replicate (j+1) (⟨⟨0,top⟩,0,0⟩:c9)++List.replicate (64-(j+1)) (⟨⟨0,0⟩,0,0⟩:c9):=by
   rw[iD _ _ (by simp),mW,iE,show 64-j=(64-(j+1))+1 by omega,oS,Bd,List.replicate_succ',dp];rfl
  rw[e]at a;exact⟨⟨j+1,c4,bu,a⟩,by dsimp only;rw[c4];omega⟩
 ·have:j=64:=by omega
  subst this;exact⟨p,rfl,de.mk (by rw[iE];simp[mH]) hP.new h2⟩
def j6(met:Int->Bool):bA bH:=(List.range 64).map λi:Nat=>Value.bool (met i)
def Ri{l:bS}{k:Nat}{x:Int}(hx:l[k]?=some x)(h:nodupB (l.take k)=true):nodupB (l.take (k+1))= !(l.take k).contains x:=by
 rw[take_succ hx];cases d:(l.take k).contains x with
 |true=>
  cases f:nodupB (l.take k++[x])with
  |false=>rfl
  |true=>
   rw[s5,uJ]at f;have:=f.2.2 x (by simpa using d) x (by simp);exact absurd rfl this
 |false=>
  show nodupB _=true;rw[s5]at h ⊢;rw[uJ];refine⟨h,by simp,λa g c b e=>?_⟩;rw[h9]at b;subst b e;have:=lq.2 g;rw[d]at this;cases this
def aGR{l:bS}{k:Nat}(h:nodupB (l.take k)=false):nodupB l=false:=by
 cases a:nodupB l with
 |false=>rfl
 |true=>
  rw[s5]at a;have:(l.take k).Nodup:=a.sublist (pJ k l);rw[<- s5,h]at this;cases this
def Rj{s:Sl}{l:bS}(q:Ints E L s l)(hb:l.length<4611686018427387904)(n:Int)(h:Sep E L w):Calls P Dj #[Sv s,Iv n] w (cZ E (.bool (jt l n)) L):=by
 apply X3;unfold Mv qD qF qO qW qm zK;refine Al.i h (λp B h1=>?_);have h1:Sep E (bD p (j6 λ_=>false)::L) B:=h1;have hn:=q.1;refine⟨λx w'=>∃k:Nat,x=k/\k<=l.length/\(l.take k).all gg=true/\nodupB (l.take k)=true/\Sep E (bD p (j6 λi=>(l.take k).contains i)::L) w',λx _=>(l.length-x).toNat,⟨0,rfl,dX _,by simp,by simp[nodupB],by simpa using h1⟩,?_⟩;rintro _ x w2 ⟨k,rfl,hk,a,c,h2⟩;refine cU (λF=>?_) (λD=>?_)
 ·obtain⟨y,d⟩:∃y,l[k]?=some y:=⟨_,du⟩
  refine(q.cons (A:=bD p (j6 λi=>(l.take k).contains i))).el h2 k rfl d (use (Fj y w2) ?_);rintro _ C ⟨rfl,rfl⟩;refine⟨_,rfl,?_⟩;cases m:gg y with
  |false=>
   refine eM ⟨?_,h2.tail⟩;have:l.all gg=false:=by
    cases u:l.all gg with
    |false=>rfl
    |true=>have:=fM.1 u y (eG d);rw[m]at this;cases this
   unfold jt;rw[this];rfl
  |true=>
   have b:=j1.1 m;have g:∀(f:Int->Bool) {w':bI},Sep E (bD p (j6 f)::L) w'->w'.cell? ((⟨p,0,none⟩:Addr).add (y.toNat*1))=some (.bool (f y)):=by
    intro f w' z;rw[cj,z.cell,fz,fY];unfold j6;rw[ez,ny bu];simp only[fC];rw[show((y.toNat:Nat):Int)=y by omega]
   refine dQ ⟨_,rfl,⟨b.1,by exact_mod_cast b.2⟩,_,g _ h2,?_⟩;cases r:(l.take k).contains y with
   |true=>
    refine eM ⟨?_,h2.tail⟩;have:nodupB l=false:=aGR (k:=k+1) (by rw[Ri d c,r];rfl);unfold jt;rw[this,sH];rfl
   |false=>
    refine dQ ⟨_,rfl,⟨b.1,by exact_mod_cast b.2⟩,?_⟩;refine cQ.j h2 (by unfold j6;simp;omega) (λG o=>?_);have e:(j6 λi=>(l.take k).contains i).set (0+y.toNat*1) (.bool true)=j6 λi=>(l.take (k+1)).contains i:=by
     rw[fz,fY,take_succ d];apply gJ;intro i;unfold j6;rw[hv];by_cases t:i<64
     ·by_cases j:y.toNat=i
      ·subst j;rw[bK rfl,bK (by simp;omega),ez,ny t];simp only[fC,Uh];rw[show((y.toNat:Nat):Int)=y by omega];simp
      ·rw[bJ j,ez,ez,ny t];simp only[fC,Uh];have:([y].contains ((i:Nat):Int))=false:=by simp;omega
       rw[this,pN]
     ·rw[cK,gI (by simp;omega),gI (by simp;omega)]
    rw[e]at o;refine⟨⟨k+1,c4,bu,?_,?_,o⟩,by dsimp only;rw[c4];omega⟩;·rw[take_succ d,List.all_append,a];simp[m]
    ·rw[Ri d c,r];rfl
 ·have:k=l.length:=by omega
  subst this;rw[fB]at a c;refine use (Rf n w2) ?_;rintro _ C ⟨rfl,rfl⟩;refine⟨_,rfl,?_,h2.tail⟩;unfold jt;rw[a,c];rfl
def Rk{s:Sl}{l:bS}(t:Ints E L s l)(hb:l.length<4611686018427387904)(hl:∀g∈l,0<=g/\g<64){is:bH}{isB:eZ->Bool}(B:hP C)(u:∀(x:eZ) f k w',(0<=x.use/\x.use<=top)/\0<=x.cJ/\x.cJ<=top->Sep E (de b C::L) w'->fe P is #[.agg #[Iv x.use,Iv x.cJ,Iv f,Iv k]] w' (cZ E (.bool (isB x)) (de b C::L)))(h:Sep E (de b C::L) w):Calls P Dk #[Pb b,Sv s,is] w
  (cZ E (Iv (match l.find? (λg=>isB (C.getD g.toNat ⟨0,0⟩))with|some g=>g|none=> -1)) (de b C::L)):=by
 apply X4;unfold Mw qA qD qO qW;have hn:=t.1;refine⟨λx w'=>∃k:Nat,x=k/\k<=l.length/\(∀g∈l.take k,isB (C.getD g.toNat ⟨0,0⟩)=false)/\Sep E (de b C::L) w',λx _=>(l.length-x).toNat,⟨0,rfl,dX _,by simp,h⟩,?_⟩;rintro _ x w2 ⟨k,rfl,hk,c,h2⟩;refine cU (λN=>?_) (λM=>?_)
 ·obtain⟨y,j⟩:∃y,l[k]?=some y:=⟨_,du⟩
  have o:=hl y (eG j);refine(t.cons (A:=de b C)).el h2 k rfl j ?_;obtain⟨R,z,O,hlen,J⟩:=de.get h2;refine⟨_,rfl,lL (q:=0) c9.lT J rfl hlen o.1 (by exact_mod_cast o.2) (λr hr d=>?_)⟩;refine⟨_,by rw[cj];exact d 0 _ rfl,_,by rw[cj];exact d 1 _ rfl,_,by rw[cj];exact d 2 _ rfl,_,by rw[cj];exact d 3 _ rfl,?_⟩;have n:C.getD y.toNat ⟨0,0⟩=r.c:=by rw[<- z,dC,ez,hr];rfl
  have D:=B.ok r.c (by rw[<- z];exact fD.2 ⟨r,eG hr,rfl⟩);have e:=u r.c r.failed r.jA w2 D h2;obtain⟨fn,ca,G,H,I⟩:=e;refine⟨fn,ca,G,H,use I ?_⟩;rintro _ Q ⟨rfl,p⟩;refine⟨_,rfl,?_⟩;cases m:isB r.c with
  |true=>
   refine eM ⟨?_,p⟩;have:l.find? (λg=>isB (C.getD g.toNat ⟨0,0⟩))=some y:=by
    rw[<- fP k l,List.find?_append];have K:(l.take k).find? (λg=>isB (C.getD g.toNat ⟨0,0⟩))=none:=by rw[rn];intro g a;rw[c g a];decide
    rw[K,kZ (by omega:k<l.length)];have:l[k]'(bu)=y:=by have:=ea (l:=l) (i:=k) bu;rw[j]at this;exact(cV this).symm
    rw[this,List.find?_cons,n,m];rfl
   rw[this]
  |false=>
   refine dQ ⟨⟨k+1,c4,bu,?_,p⟩,by dsimp only;rw[c4];omega⟩;intro g a;rw[take_succ j]at a;rcases gb.1 a with a|a;·exact c g a
   ·rw[h9]at a;subst a;rw[n];exact m
 ·have:k=l.length:=by omega
  subst this;rw[fB]at c;have:l.find? (λg=>isB (C.getD g.toNat ⟨0,0⟩))=none:=by rw[rn];intro g a;rw[c g a];decide
  rw[this];exact⟨rfl,h2⟩
def Rl{l:bS}{k:Nat}{y:Int}(a:l[k]?=some y)(n:Int):dP C (l.take (k+1)) n=iR (dP C (l.take k) n) y λx=> {x with use:=x.use+n} :=by
 rw[take_succ a];unfold dP;rw[Be];rfl
def Rm{s:Sl}{l:bS}(H:Ints E L s l)(hb:l.length<4611686018427387904)(n:Int)(h:Sep E (de b C::L) w):Calls P vO #[Pb b,Sv s,Iv n] w
  (cZ E (.tuple #[Iv (ds C l n).2.1,Iv (ds C l n).2.2]) (de b (ds C l n).1::L)):=by
 apply Zl;unfold NB qC qD qF qL qO qQ qW;have a:=de.ok (q:=0) h rfl;have t:=a.try l n;have ar:=H.1;refine Al.i h (λp ax h1=>?_);have X:Ints E (bD p [Iv n]::de b C::L) s l:=H.cons.cons;refine⟨_,h1.cell 0,use (Rj X hb n h1) ?_⟩;rintro _ w2 ⟨rfl,h2⟩;refine⟨_,rfl,?_⟩;cases hr:jt l n with
 |false=>
  refine eM ?_;have:ds C l n=(C, -1,1):=by unfold ds;rw[hr];rfl
  rw[this];exact⟨rfl,h2.tail⟩
 |true=>
  obtain⟨z,U,au,av⟩:=nd.1 hr;have Y:Ints E (bD p [Iv n]::L) s l:=H.cons;refine dQ (use (Rk (L:=bD p [Iv n]::L) (isB:=λx=>decide (0<n)&&decide (x.cJ<x.use+n)) Y hb z a ?_ h2.swap) ?_)
  ·intro x f k w' hx h';refine⟨D3,_,rfl,by kernel_rfl,?_⟩;show Calls P D3 #[.agg #[Iv x.use,Iv x.cJ,Iv f,Iv k],Pb p] w' _;apply ZA;unfold NR qD qL;refine Al.i h' (λp2 aj d=>?_);refine⟨_,d.cellAt 2 rfl 0,gv (λad=>?_) (λhle=>⟨by rw[dq bu];rfl,d.tail⟩)⟩;refine⟨_,by rw[cj];exact d.cell 0,_,d.cellAt 2 rfl 0,_,by rw[cj];exact d.cell 1,?_,d.tail⟩;rw[dK ad,my,cX (by unfold top at *;omega) (by unfold top at *;omega)]
  ·rintro _ aj ⟨rfl,d⟩;refine⟨_,rfl,?_⟩;cases hf:l.find? (λg=>decide (0<n)&&decide ((C.getD g.toNat ⟨0,0⟩).cJ<(C.getD g.toNat ⟨0,0⟩).use+n))with
   |some g=>
    have o:=z g (xn hf);have e:ds C l n=(C,g,22):=by unfold ds;rw[hr,hf];rfl
    rw[e];dsimp only;refine hq (λ_=>?_) (λS=>absurd S bu);refine Dr.i d (λak u=>?_);obtain⟨R,c,ai,hlen,m⟩:=de.get u;refine⟨_,rfl,lL (q:=0) c9.lT m rfl hlen o.1 (by exact_mod_cast o.2) (λr hr aa=>?_)⟩;refine⟨_,by rw[cj];exact aa 2 _ rfl,_,rfl,lL (q:=0) c9.lT m rfl hlen o.1 (by exact_mod_cast o.2) (λaw M ao=>?_)⟩;rw[hr]at M;have:=cV M;subst this;refine ub (r':=⟨r.c,i64.wrap (r.failed+1),r.jA⟩) m hr bN rfl (λam Q=>⟨rfl,?_⟩);refine(de.mk (C:=C) ?_ a Q).ro 2 [0] rfl;rw[hT,c];show C.set g.toNat r.c=C;apply gJ;intro i;by_cases ae:g.toNat=i
    ·subst ae;have:C[g.toNat]?=some r.c:=by rw[<- c,ez,hr];rfl
     rw[jm (c2.1 this).1,this]
    ·rw[iM ae]
   |none=>
    have e:ds C l n=(dP C l n, -1,0):=by unfold ds;rw[hr,hf];rfl
    rw[e]at t ⊢;dsimp only at t ⊢;have T:∀g∈l,(hO C g).use+n<=top:=by
     intro g o;have:=rn.1 hf g o;rw[s6 (z g o)]at this;have ho:=a.of g;simp only[dF,gD,not_and]at this;rcases Int.lt_or_le 0 n with hp|hp;·have:=this hp;omega
     ·omega
    have Z:Ints E (bD p [Iv n]::L) s l:=H.cons;refine hq (λS=>absurd S bN) (λ_=>?_);refine⟨λx w'=>∃k:Nat,x=k/\k<=l.length/\∃R:bA c9,R.map c9.c=dP C (l.take k) n/\Sep E (bD b (bO c9.vs R)::bD p [Iv n]::L) w',λx _=>(l.length-x).toNat,?_,?_⟩
    ·obtain⟨R,c,ai,hlen,m⟩:=de.get d;exact⟨0,rfl,dX _,R,by rw[uP];exact c,m⟩
    ·rintro _ x ak ⟨k,rfl,hk,R,c,u⟩;have I:R.length=64:=by rw[<- dY (f:=c9.c),c,nS];exact a.len
     refine cU (λaq=>?_) (λap=>?_)
     ·obtain⟨y,J⟩:∃y,l[k]?=some y:=⟨_,du⟩
      have O:=eG J;have G:=z y O;have F:gg y=true:=j1.2 G;refine(Z.cons (A:=bD b (bO c9.vs R))).el u k rfl J ⟨_,rfl,lL (q:=0) c9.lT u rfl I G.1 (by exact_mod_cast G.2) (λr hr aa=>?_)⟩;have ah:r.c=hO C y:=by
       rw[<- Fk c F hr];have ag:y∉l.take k:=by
        intro hm;have:=U.sublist (pJ (k+1) l);rw[take_succ J,uJ]at this;exact this.2.2 y hm y (by simp) rfl
       unfold hO;rw[F,bK rfl,bK rfl,rN n (l.take k) a.len (λg o=>z g (oo o)) (U.sublist (pJ k l)) F,bJ ag]
      refine Dr.i u (λal m=>?_);have ab:∀(j:Nat) v,(r.vs)[j]?=some v->al.cell? ⟨b,y.toNat*4+j,none⟩=some v:=by
       intro j v B;have D:j<4:=by have:=(c2.1 B).1;rwa[c9.lT]at this
       rw[m.cell,tE c9.lT hr j D];exact B
      refine⟨_,rfl,_,by rw[cj];exact ab 0 _ rfl,_,m.cellAt 1 rfl 0,_,rfl,?_⟩;have hw:i64.wrap (r.c.use+n)=r.c.use+n:=by
       have:=T y O;have ho:=a.of y;rw[ah];unfold top at*
       exact cX bu bu
      rw[hw];refine ub (r':=⟨{r.c with use:=r.c.use+n},r.failed,r.jA⟩) m hr bN rfl (λam Q=>Dr.i Q (λan V=>?_));have af:y.toNat<R.length:=(c2.1 hr).1;have N:(R.set y.toNat ⟨{r.c with use:=r.c.use+n},r.failed,r.jA⟩)[y.toNat]?=some ⟨{r.c with use:=r.c.use+n},r.failed,r.jA⟩:=jm af;have K:∀(j:Nat) v,(c9.vs ⟨{r.c with use:=r.c.use+n},r.failed,r.jA⟩)[j]?=some v->an.cell? ⟨b,y.toNat*4+j,none⟩=some v:=by
       intro j v B;have D:j<4:=by have:=(c2.1 B).1;rwa[c9.lT]at this
       rw[V.cell,tE c9.lT N j D];exact B
      refine⟨_,rfl,_,by rw[cj];exact K 3 _ rfl,_,rfl,_,by rw[cj];exact K 0 _ rfl,_,rfl,?_⟩;refine ub (r':=⟨{r.c with use:=r.c.use+n},r.failed,eR r.jA (r.c.use+n)⟩) V N bN rfl (λay W=>?_);rw[List.set_set]at W;refine⟨⟨k+1,c4,bu,_,?_,W⟩,by dsimp only;rw[c4];omega⟩;rw[Rl J];exact Fl c hr (λx=> {x with use:=x.use+n}) rfl
     ·have:k=l.length:=by omega
      subst this;rw[fB]at c;exact⟨rfl,(de.mk c t u).ro 2 [0] rfl⟩
def Ar{s:Sl}{l:bS}(B:Ints E L s l)(hb:l.length<4611686018427387904)(n:Int)(h:Sep E (de b C::L) w):Calls P tn #[Pb b,Sv s,Iv n] w
  (cZ E (Iv (gB C l n).2) (de b (gB C l n).1::L)):=by
 apply Xo;unfold LV qC qD qF qL qO qQ qW;have a:=de.ok (q:=0) h rfl;have i:=a.dE l n;have Z:=B.1;refine Al.i h (λp af h1=>?_);have M:Ints E (bD p [Iv n]::de b C::L) s l:=B.cons.cons;refine⟨_,h1.cell 0,use (Rj M hb n h1) ?_⟩;rintro _ w2 ⟨rfl,h2⟩;refine⟨_,rfl,?_⟩;cases hr:jt l n with
 |false=>
  refine eM ?_;have:gB C l n=(C,1):=by unfold gB;rw[hr];rfl
  rw[this];exact⟨rfl,h2.tail⟩
 |true=>
  obtain⟨t,K,aa,ab⟩:=nd.1 hr;have N:Ints E (bD p [Iv n]::L) s l:=B.cons;refine dQ (use (Rk (L:=bD p [Iv n]::L) (isB:=λx=>decide (x.use<n)) N hb t a ?_ h2.swap) ?_)
  ·intro x f k w' hx h';refine⟨Dl,_,rfl,by kernel_rfl,?_⟩;show Calls P Dl #[.agg #[Iv x.use,Iv x.cJ,Iv f,Iv k],Pb p] w' _;apply X5;unfold Mx qD qL;refine Al.i h' (λp2 V m=>?_);exact⟨_,by rw[cj];exact m.cell 0,_,m.cellAt 2 rfl 0,rfl,m.tail⟩
  ·rintro _ V ⟨rfl,m⟩;refine⟨_,rfl,?_⟩;cases hf:l.find? (λg=>decide ((C.getD g.toNat ⟨0,0⟩).use<n))with
   |some g=>
    have u:=t g (xn hf);have e:gB C l n=(C,2):=by unfold gB;rw[hr,hf];rfl
    rw[e];dsimp only;exact hq (λ_=>⟨rfl,m.ro 2 [0] rfl⟩) (λI=>absurd I bu)
   |none=>
    have e:gB C l n=(dP C l (-n),0):=by unfold gB;rw[hr,hf];rfl
    rw[e]at i ⊢;dsimp only at i ⊢;have J:∀g∈l,n<=(hO C g).use:=by
     intro g u;have:=rn.1 hf g u;rw[s6 (t g u)]at this;simpa using this
    have O:Ints E (bD p [Iv n]::L) s l:=B.cons;refine hq (λI=>absurd I bN) (λ_=>?_);refine⟨λx w'=>∃k:Nat,x=k/\k<=l.length/\∃R:bA c9,R.map c9.c=dP C (l.take k) (-n)/\Sep E (bD b (bO c9.vs R)::bD p [Iv n]::L) w',λx _=>(l.length-x).toNat,?_,?_⟩
    ·obtain⟨R,d,ad,hlen,o⟩:=de.get m;exact⟨0,rfl,dX _,R,by rw[uP];exact d,o⟩
    ·rintro _ x ag ⟨k,rfl,hk,R,d,H⟩;have j:R.length=64:=by rw[<- dY (f:=c9.c),d,nS];exact a.len
     refine cU (λY=>?_) (λX=>?_)
     ·obtain⟨y,D⟩:∃y,l[k]?=some y:=⟨_,du⟩
      have G:=eG D;have c:=t y G;have z:gg y=true:=j1.2 c;refine(O.cons (A:=bD b (bO c9.vs R))).el H k rfl D (Dr.i H (λah o=>⟨_,rfl,lL (q:=0) c9.lT o rfl j c.1 (by exact_mod_cast c.2) (λr hr U=>?_)⟩));have S:r.c=hO C y:=by
       rw[<- Fk d z hr];have Q:y∉l.take k:=by
        intro hm;have:=K.sublist (pJ (k+1) l);rw[take_succ D,uJ]at this;exact this.2.2 y hm y (by simp) rfl
       unfold hO;rw[z,bK rfl,bK rfl,rN (-n) (l.take k) a.len (λg u=>t g (oo u)) (K.sublist (pJ k l)) z,bJ Q]
      refine⟨_,by rw[cj];exact U 0 _ rfl,_,o.cellAt 1 rfl 0,_,rfl,lL (q:=0) c9.lT o rfl j c.1 (by exact_mod_cast c.2) (λae F W=>?_)⟩;rw[hr]at F;have:=cV F;subst this;have hw:i64.wrap (r.c.use-n)=r.c.use+ -n:=by
       have:=J y G;have ho:=a.of y;rw[S];unfold top at*
       rw[cX bu bu];omega
      rw[hw];refine ub (r':=⟨{r.c with use:=r.c.use+ -n},r.failed,r.jA⟩) o hr bN rfl (λai T=>?_);refine⟨⟨k+1,c4,bu,_,?_,T⟩,by dsimp only;rw[c4];omega⟩;rw[Rl D];exact Fl d hr (λx=> {x with use:=x.use+ -n}) rfl
     ·have:k=l.length:=by omega
      subst this;rw[fB]at d;exact⟨rfl,(de.mk d i H).ro 2 [0] rfl⟩
end Go.Mp
namespace Go.Mp
open Go Go.Vc Go.Sp Go.Proofs Go.Kc
variable{E:Env}{L:cr}{w W:bI}
def aLE(n:Int):i64.wrap n%18446744073709551616=n%18446744073709551616:=by
 unfold IntKind.wrap;simp only[IntKind.signed,IntKind.bits,my];split<;>omega
def Rn(n:Int):dy .i64 n 1099511627775=n%1099511627776:=by
 have h1:((BitVec.ofInt 64 n &&& BitVec.ofInt 64 1099511627775).toNat:Int)=n%1099511627776:=by
  rw[xB];have a:(BitVec.ofInt 64 1099511627775).toNat=2^40-1:=by decide
  have b:((BitVec.ofInt 64 n).toNat:Int)=n%18446744073709551616:=by
   rw[BitVec.toNat_ofInt];have:(n%((2:Nat)^64:Nat))=n%18446744073709551616:=rfl;omega
  rw[a,uB];generalize (BitVec.ofInt 64 n).toNat=m at*
  have:((m%2^40:Nat):Int)=(m:Int)%1099511627776:=by omega
  rw[this,b];omega
 show i64.wrap ((BitVec.ofInt 64 n &&& BitVec.ofInt 64 1099511627775).toNat:Int)=_;rw[h1];exact cX bu bu
structure eX where
 clock:Int
 back:Int
def eX.vs(r:eX):bA bH:=[Iv r.clock,Iv r.back]
def eX.lb(r:eX):r.vs.length=2:=rfl
def fW(b:Nat)(l:bS):Asn:=fo λR:bA eX=>cL (R.map eX.clock=l/\l.length=64) (bD b (bO eX.vs R))
def fW.get{b:Nat}{l:bS}(h:Sep E (fW b l::L) w):∃R:bA eX,R.map eX.clock=l/\l.length=64/\R.length=64/\Sep E (bD b (bO eX.vs R)::L) w:=by
 obtain⟨R,h⟩:=Sep.ex.1 h;obtain⟨hn,h⟩:=Sep.cL.1 h;exact⟨R,hn.1,hn.2,by have:=hn.2;rw[<- hn.1,dY]at this;exact this,h⟩
def fW.mk{b:Nat}{l:bS}{R:bA eX}(h1:R.map eX.clock=l)(h2:l.length=64)(h:Sep E (bD b (bO eX.vs R)::L) w):Sep E (fW b l::L) w:=Sep.ex.2 ⟨R,Sep.cL.2 ⟨⟨h1,h2⟩,h⟩⟩
def aC3(h:Sep E L w):Calls P CH #[] w (cC λv w'=>∃p,v=Pb p/\Sep E (fW p (List.replicate 64 0)::L) w'):=by
 apply WK;unfold Lq qB;exact Al.i h (λp a h1=>⟨p,rfl,fW.mk (R:=List.replicate 64 ⟨0,0⟩) rfl rfl h1⟩)
def Fm(g:Int)(w:bI):Calls P y4 #[Iv g] w (cC λv w'=>v=.bool (gg g)/\w'=w):=by
 apply Zn;unfold ND gg;exact ij (λh=>⟨by rw[dK h];rfl,rfl⟩) (λh=>⟨by rw[dq bu];rfl,rfl⟩)
def Ro(h:Sep E L w):Calls P D4 #[] w (cC λv w'=>∃p,v=.slice (some ⟨p,0,none⟩) 3 3/\Sep E (bD p (bC (ints [1,8,40]))::L) w'):=by
 apply ZB;unfold NS qC;exact Al.i h (λp a h1=>⟨p,rfl,h1⟩)
def As{g:Int}(d:gg g=true)(c:Int)(h:Sep E L w):Calls P KH #[Iv g,Iv c] w (cZ E (.int .u64 (if c<0 then 0 else sV g c)) L):=by
 apply Zo;unfold NF qC qJ zB;refine cU (λe=>⟨by rw[bK e],h⟩) (λe=>use (Ro h) ?_);rintro _ o ⟨p,rfl,h1⟩;obtain⟨n,rfl⟩:∃n:Nat,g=n:=⟨g.toNat,by have:=j1.1 d;omega⟩
 have l:=(j1.1 d).2;obtain⟨m,hm⟩:∃m:Nat,c%1099511627776=m:=⟨(c%1099511627776).toNat,bu⟩
 have i:m<1099511627776:=by omega
 refine⟨⟨some ⟨p,0,none⟩,3,3⟩,rfl,Al.i h1 (λq w2 h2=>?_)⟩;rw[Rn,hm]at h2;have h2:Sep E (bD q (bC (ints [1,n,m]))::bD p (bC (ints [1,8,40]))::L) w2:=h2;refine use (P2 (s:=⟨some ⟨p,0,none⟩,3,3⟩) (t:=⟨some ⟨q,0,none⟩,3,3⟩) (ws:=[1,8,40]) (vs:=[1,n,m]) (Ints.h0 (b:=p) (c:=3) (gs:=ints [1,8,40]) (q:=1) rfl) (Ints.h0 (b:=q) (c:=3) (gs:=ints [1,n,m]) (q:=0) rfl) bN bN bN rfl (λu hu=>by simp at hu;omega) h2) ?_;rintro _ r ⟨j,rfl⟩;rcases j with⟨_,rfl⟩|⟨f,rfl⟩
 ·refine⟨_,_,rfl,?_,h2.tail.tail⟩;rw[cK];unfold sV top;rw[hm];congr 1;simp only[jN];omega
 ·exfalso;apply f;intro k y u a hu
  match k,a,hu with
  |0,a,hu=>simp at a hu;subst a hu;decide
  |1,a,hu=>simp at a hu;subst a hu;omega
  |2,a,hu=>simp at a hu;subst a hu;omega
  |k+3,a,_=>simp at a
def Rp{x:Nat}(hx:x<18446744073709551616)(h:Sep E L w):Calls P DX #[.int .u64 (x:Nat)] w (cZ E (.tuple #[Iv (g8 x).1,Iv (g8 x).2.1,.bool (g8 x).2.2]) L):=by
 apply Zp;unfold NG qD qJ qW qg zF;refine use (Ro h) ?_;rintro _ y ⟨p,rfl,h1⟩;refine⟨⟨some ⟨p,0,none⟩,3,3⟩,rfl,use (P0 (s:=⟨some ⟨p,0,none⟩,3,3⟩) (ws:=[1,8,40]) (Ints.h0 (b:=p) (c:=3) (gs:=ints [1,8,40]) (q:=0) rfl) bN bN bN hx h1) ?_⟩;have k:c8 [1,8,40]=49:=rfl;rw[k];rintro _ w2 (⟨j,t,rfl,l,h2⟩|⟨j,rfl,h2⟩)
 ·have o:x<562949953421312:=by omega
  have hn:t.n=(ints (fields [1,8,40] x)).length:=by rw[l];rfl
  have i:((ints (fields [1,8,40] x)).length:Int)=3:=rfl;refine⟨t,_,rfl,λw'=>w'=w2/\x%2=1,bF rfl ?_,?_⟩
  ·refine mN 0 h2 rfl hn bN bu (λa f=>⟨_,f,?_⟩);show bif(((x%2^1:Nat):Int) !=1)then _ else _;refine g0 (λr=>?_) (λhe=>⟨rfl,bu⟩);have e:g8 (x:Int)=(0,0,false):=by unfold g8;rw[cK]
   rw[e];exact⟨rfl,h2.tail.tail⟩
  ·rintro _ m ⟨rfl,n⟩;refine Dr.i h2 (λz d=>mN 0 d rfl hn bN bu (λa f=>⟨_,f,mN 0 d rfl hn bN bu (λu g=>⟨_,g,?_,d.tail.tail⟩)⟩));have e:g8 (x:Int)=((x:Int)/2%256,(x:Int)/512,true):=by unfold g8 top;rw[eV]
   rw[e];show Value.tuple #[Iv ((x/2^1%2^8:Nat):Int),Iv ((x/2^1/2^8%2^40:Nat):Int),.bool true]=_;rw[show((x/2^1%2^8:Nat):Int)=(x:Int)/2%256 by omega,show((x/2^1/2^8%2^40:Nat):Int)=(x:Int)/512 by omega]
 ·refine⟨⟨none,0,0⟩,_,rfl,λ_=>False,bT rfl ?_,λ_ m hf=>hf.elim⟩;have e:g8 (x:Int)=(0,0,false):=by unfold g8 top;rw[cK]
  rw[e];exact⟨rfl,h2.tail⟩
def aEB{x:Nat}(hx:x<18446744073709551616)(c:Int)(h:Sep E L w):Calls P KO #[.int .u64 (x:Nat),Iv c] w (cZ E (Iv (if(g8 x).2.2=false\/c<0 then -1 else(c-(g8 x).2.1)%top)) L):=by
 apply ZC;unfold NT zO;refine use (Rp hx h) ?_;rintro _ b ⟨rfl,h1⟩;refine⟨_,_,_,rfl,?_⟩;cases hl:(g8 (x:Int)).2.2 with
 |false=>exact eM ⟨by rw[bK (.inl rfl)],h1⟩
 |true=>
  refine dQ (cU (λa=>⟨by rw[bK (.inr a)],h1⟩) (λa=>⟨?_,h1⟩));rw[bJ (by rintro(e|e);cases e;omega),Rn];have:=aLE (c-(g8 (x:Int)).2.1);unfold top;congr 1;omega
def aFW{x:Nat}(hx:x<18446744073709551616)(c r:Int)(h:Sep E L w):Calls P KI #[.int .u64 (x:Nat),Iv c,Iv r] w (cZ E (.bool ((g8 x).2.2&&decide (0<=c)&&decide ((c-(g8 x).2.1)%top<=r))) L):=by
 apply Zq;unfold NH qQ;refine use (aEB hx c h) ?_;rintro _ d ⟨rfl,h1⟩;refine⟨_,rfl,?_⟩;by_cases hb:(g8 (x:Int)).2.2=false\/c<0
 ·rw[bK hb];refine ij (λa=>absurd a bN) (λ_=>⟨?_,h1⟩);rcases hb with hb|hb;·rw[hb];rfl
  ·rw[dq (show ¬ 0<=c by omega),sH];rfl
 ·rw[bJ hb];have b:0<=(c-(g8 (x:Int)).2.1)%top:=Hx _ bN;refine ij (λ_=>⟨?_,h1⟩) (λa=>absurd a bu);have h2:(g8 (x:Int)).2.2=true:=by cases a:(g8 (x:Int)).2.2 with|true=>rfl|false=>exact absurd (.inl a) hb
  rw[h2,dK (show 0<=c by omega)];rfl
variable{b:Nat}{l:bS}
def Rq{R:bA eX}{F:bi9}(h:Sep E (bD b (bO eX.vs R)::L) w){k j:Nat}{r r':eX}{v:bH}(hr:R[k]?=some r)(e:j<2)(d:r'.vs=r.vs.set j v)(f:∀a,Sep E (bD b (bO eX.vs (R.set k r'))::L) a->F a):St ((⟨b,k*2,none⟩:Addr).add j) v F w:=by
 have c:=(c2.1 hr).1;rw[cj];refine St.i h ?_ (λa h1=>f a ?_)
 ·rw[oD eX.lb];have:(k+1)*2<=R.length*2:=k2 _ c;omega
 ·rw[Et eX.lb hr e d]at h1;exact h1
def Rr{R:bA eX}(h1:R.map eX.clock=l){k:Nat}{r:eX}(hr:R[k]?=some r):l.getD k 0=r.clock:=by
 rw[<- h1,dC,ez,hr];rfl
def aLl(h:Sep E (fW b l::L) w)(g:Int):Calls P Ky #[Pb b,Iv g] w (cZ E (.int .u64 (dZ l g).2) (fW b (dZ l g).1::L)):=by
 apply Y0;unfold Nk qF qL zU;refine use (Fm g w) ?_;rintro _ o ⟨rfl,rfl⟩;refine⟨_,rfl,?_⟩;unfold dZ;cases j:gg g with
 |false=>exact eM ⟨rfl,h⟩
 |true=>
  have a:=j1.1 j;obtain⟨R,i,hl,hlen,h1⟩:=fW.get h;refine dQ ⟨_,rfl,lL (q:=0) eX.lb h1 rfl hlen a.1 (by exact_mod_cast a.2) (λr hr m=>⟨_,by rw[cj];exact m 0 _ rfl,use (As j r.clock h1) ?_⟩)⟩;rintro _ w2 ⟨rfl,h2⟩;refine⟨_,rfl,Dr.i h2 (λp f=>⟨_,rfl,lL (q:=0) eX.lb f rfl hlen a.1 (by exact_mod_cast a.2) (λn c d=>?_)⟩)⟩;rw[hr]at c;have:=cV c;subst this;refine⟨_,by rw[cj];exact d 0 _ rfl,_,rfl,lL (q:=0) eX.lb f rfl hlen a.1 (by exact_mod_cast a.2) (λn c d=>?_)⟩;refine Rq (r':=⟨i64.wrap (r.clock+1),r.back⟩) f hr bN rfl (λs k=>?_);have e:o5 l g=r.clock:=Rr i hr;rw[e];refine⟨rfl,fW.mk ?_ (by rw[bJ bN];simpa using hl) k⟩;rw[hT,i];rfl
def aLe(h:Sep E (fW b l::L) w){x:Nat}(hx:x<18446744073709551616)(o r:Int):Calls P KA #[Pb b,.int .u64 (x:Nat),Iv o,Iv r] w (cZ E (.bool (mJ l x r)) (fW b l::L)):=by
 apply Y2;unfold Nm qF qL qg zO;refine use (Rp hx h) ?_;rintro _ t ⟨rfl,h1⟩;refine⟨_,_,_,rfl,?_⟩;unfold mJ;refine⟨λw'=>((g8 (x:Int)).2.2&&gg (g8 (x:Int)).1&&decide (0<=o5 l (g8 (x:Int)).1)&&decide ((o5 l (g8 (x:Int)).1-(g8 (x:Int)).2.1)%top<=r))=true/\Sep E (fW b l::L) w',?_,?_⟩
 ·cases hl:(g8 (x:Int)).2.2 with
  |false=>exact eM ⟨rfl,h1⟩
  |true=>
   refine dQ (use (Fm _ t) ?_);rintro _ w2 ⟨rfl,rfl⟩;refine⟨_,rfl,?_⟩;cases m:gg (g8 (x:Int)).1 with
   |false=>exact eM ⟨rfl,h1⟩
   |true=>
    have a:=j1.1 m;obtain⟨R,f,g,hlen,p⟩:=fW.get h1;refine dQ ⟨_,rfl,lL (q:=0) eX.lb p rfl hlen a.1 (by exact_mod_cast a.2) (λc hr k=>⟨_,by rw[cj];exact k 0 _ rfl,use (aFW hx c.clock r h1) ?_⟩)⟩;rintro _ u ⟨rfl,d⟩;have e:o5 l (g8 (x:Int)).1=c.clock:=Rr f hr;rw[e,hl];refine⟨_,rfl,?_⟩;simp only[my];cases hb:(decide (0<=c.clock)&&decide ((c.clock-(g8 (x:Int)).2.1)%top<=r))with
    |false=>exact eM ⟨rfl,d⟩
    |true=>exact dQ ⟨rfl,d⟩
 ·rintro _ w2 ⟨hb,h2⟩;rw[hb];refine use (Fm o w2) ?_;rintro _ u ⟨rfl,rfl⟩;refine⟨_,rfl,?_⟩;cases m:gg o with
  |false=>exact dQ ⟨rfl,h2⟩
  |true=>
   have a:=j1.1 m;refine eM (Dr.i h2 (λB d=>?_));obtain⟨R,f,g,hlen,j⟩:=fW.get d;refine⟨_,rfl,lL (q:=0) eX.lb j rfl hlen a.1 (by exact_mod_cast a.2) (λc hr k=>⟨_,by rw[cj];exact k 1 _ rfl,_,rfl,lL (q:=0) eX.lb j rfl hlen a.1 (by exact_mod_cast a.2) (λA z y=>?_)⟩)⟩;refine Rq (r':=⟨c.clock,i64.wrap (c.back+1)⟩) j hr bN rfl (λC s=>⟨rfl,fW.mk ?_ g s⟩);rw[hT,f];show l.set o.toNat c.clock=l;apply gJ;intro i;by_cases n:o.toNat=i
   ·subst n;have:l[o.toNat]?=some c.clock:=by rw[<- f,ez,hr];rfl
    rw[jm (c2.1 this).1,this]
   ·rw[iM n]
end Go.Mp
namespace Go.Mp
open Go Go.Vc Go.Sp Go.Kc
open By
variable{E:Env}{L:cr}{w:bI}
def gx(s n:Nat)(X:bA UInt8):Asn:=
 fo λbl:Nat=>cL (X.length=16*n/\n<=1024) (star (bD s [.slice (some ⟨bl,0,none⟩) n n]) (bD bl (hz X)))
def gx.open{s n:Nat}{X:bA UInt8}(h:Sep E (gx s n X::L) w):
  ∃bl:Nat,X.length=16*n/\n<=1024/\Sep E (bD s [.slice (some ⟨bl,0,none⟩) n n]::bD bl (hz X)::L) w:=by
 obtain⟨bl,h⟩:=Sep.ex.1 h;obtain⟨⟨h1,h2⟩,h⟩:=Sep.cL.1 h;exact⟨bl,h1,h2,Sep.star.1 h⟩
def gx.shut{s n bl:Nat}{X:bA UInt8}(h1:X.length=16*n)(h2:n<=1024)(h:Sep E (bD s [.slice (some ⟨bl,0,none⟩) n n]::bD bl (hz X)::L) w):Sep E (gx s n X::L) w:=
 Sep.ex.2 ⟨bl,Sep.cL.2 ⟨⟨h1,h2⟩,Sep.star.2 h⟩⟩
def wB{s n bl:Nat}{X:bA UInt8}(i:Int)(h:Sep E (bD s [.slice (some ⟨bl,0,none⟩) n n]::bD bl (hz X)::L) w):
  Calls P tt #[Pb s,Iv i] w (cC λv w'=>w'=w/\v=.pointer (if pg n i then some ⟨bl,16*i.toNat,none⟩else none)):=by
 apply Yt;unfold MO qK qW;refine cy (λb=>?_) (λb=>?_)
 ·simp only[gD]at b;exact⟨rfl,by rw[bJ (λc=>by have:=c.1;omega)]⟩
 ·simp only[G5]at b;refine⟨_,rfl,⟨_,_,_⟩,(h.cell _).trans rfl,?_⟩;refine cy (λa=>?_) (λa=>?_)
  ·simp only[gD]at a;exact⟨rfl,by rw[bJ (λc=>by have:=c.2;omega)]⟩
  ·simp only[G5]at a;refine⟨_,rfl,⟨_,_,_⟩,(h.cell _).trans rfl,_,rfl,⟨bu,by dsimp only;omega⟩,rfl,?_⟩;rw[bK ⟨bu,bu⟩,cj,xG,fz]
def aKF{n:Int}:min1 (eR n 0) 1024=((min (max n 0).toNat 1024:Nat):Int):=by
 unfold min1 eR;split<;>split<;>omega
def aC1(n:Int)(h:Sep E L w):
  Calls P Jq #[Iv n] w (cC λv w'=>∃s,v=Pb s/\Sep E (gx s (min (max n 0).toNat 1024) (List.replicate (16*min (max n 0).toNat 1024) 0)::L) w'):=by
 apply WS;unfold Lx;rw[aKF];generalize hm:min (max n 0).toNat 1024=m;have a:m<=1024:=by omega
 refine mK.i h (m:=16) (sz:=16) (dj:=16) cE bu bu bu bu (λb c h1=>?_);refine Al.i h1 (λs w2 h2=>?_);refine⟨s,rfl,gx.shut (bl:=b) (by simp) a ?_⟩;simp only[dt]at h2;rw[xG]at h2;exact h2
def Rs(l:bA UInt8){b o n c q:Nat}{C:bA bH}(h:Sep E L w)(f:L[q]?=some (bD b C))(hn:l.length=n)(d:∀j (m:j<l.length),C[o+j]?=some (.int .u8 (l[j].toNat:Int))):
  uZ P th Cx (.slice (some ⟨b,o,none⟩) n c) w (.string ⟨l.toArray⟩):=by
 intro w' g;obtain⟨e,k,q2⟩:=B6 (P:=P) (t:=th) cE;subst hn;exact run_convert_bytes_back (P:=P) w' th Cx e ⟨b,o,none⟩ c l k q2 cE (λi a=>by rw[cj,(h.grow g).cellAt q f];exact d i a)
def Rt{s n:Nat}{X:bA UInt8}(i:Int)(h:Sep E (gx s n X::L) w):
  Calls P DS #[Pb s,Iv i] w (cC λv w'=>w'=w/\v=.tuple #[.string (⟨(By.rd n X i).1.toArray⟩:ByteArray),Iv (By.rd n X i).2]):=by
 obtain⟨bl,h1,h2,h⟩:=gx.open h;apply Y7;unfold Nr qR;refine use (wB i h) ?_;rintro _ d ⟨rfl,rfl⟩;refine⟨_,rfl,?_⟩;by_cases a:pg n i
 ·rw[bK a];refine⟨_,rfl,?_⟩;have hr:By.rd n X i=(lG X i,0):=bK a;rw[hr];refine⟨_,Rs (lG X i) (q:=1) h rfl (IL h1 a) (λj c=>?_),rfl,rfl⟩;have b:=c;rw[IL h1 a]at b;rw[vh,<- IN b,ea c];rfl
 ·rw[bJ a];have hr:By.rd n X i=([],1):=bJ a;rw[hr];exact⟨rfl,rfl⟩
def aA6(t:ByteArray):byteCells t=hz t.data.toList:=rfl
def Ru{s n:Nat}{X:bA UInt8}(i:Int)(t:ByteArray)(h:Sep E (gx s n X::L) w):
  Calls P DW #[Pb s,Iv i,.string t] w (cZ E (Iv (wr n X i t.data.toList).2) (gx s n (wr n X i t.data.toList).1::L)):=by
 have d:=h;obtain⟨bl,h1,h2,h⟩:=gx.open h;apply Zm;unfold NC qR;refine use (wB i h) ?_;rintro _ f ⟨rfl,rfl⟩;refine⟨_,rfl,?_⟩;have g:t.data.toList.length=t.size:=rfl;by_cases a:pg n i
 ·rw[bK a];refine dQ (cy (λb=>?_) (λb=>?_))
  ·simp only[bne_iff_ne,ne_eq]at b;have:¬ (pg n i/\t.data.toList.length=16):=λc=>by have:=c.2;omega
   have hr:wr n X i t.data.toList=(X,1):=bJ this;rw[hr];exact⟨rfl,d⟩
  ·simp only[bne_eq_false_iff_eq]at b;have hr:wr n X i t.data.toList=(lH X i t.data.toList,0):=bK ⟨a,bu⟩;rw[hr];refine⟨_,rfl,?_⟩;have hx:=a.1;have j:=a.2;refine o8.i h.swap (dj:=1) (zs:=[.int .u8 0]) cE bu (by simp;omega) (λf e=>?_);rw[aA6,IM h1 a bu]at e;exact⟨rfl,gx.shut (Cb h1 a bu) h2 e.swap⟩
 ·rw[bJ a];have hr:wr n X i t.data.toList=(X,1):=bJ (λc=>a c.1);rw[hr];exact⟨rfl,d⟩
def bB{n i:Int}{A B:Prop}(h1:n<i->A)(h2:i<=n->B):bif decide (n<i)then A else B:=
 cy (λh=>h1 (by simpa using h)) (λh=>h2 (by simpa using h))
def bG{n i:Int}{A B:Prop}(h1:i<=n->A)(h2:n<i->B):bif decide (n≥i)then A else B:=
 cy (λh=>h1 (by simpa using h)) (λh=>h2 (by simpa using h))
def gv{n i:Int}{A B:Prop}(h1:i<n->A)(h2:n<=i->B):bif decide (n>i)then A else B:=
 cy (λh=>h1 (by simpa using h)) (λh=>h2 (by simpa using h))
def g0{n i:Int}{A B:Prop}(h1:n≠i->A)(h2:n=i->B):bif(n !=i)then A else B:=
 cy (λh=>h1 (by simpa using h)) (λh=>h2 (by simpa using h))
def aC0{s n:Nat}{X:bA UInt8}(i a:Int)(h:Sep E (gx s n X::L) w):
  Calls P JW #[Pb s,Iv i,Iv a] w (cC λv w'=>w'=w/\v=.tuple #[.int .u8 (gt n X i a).1.toNat,Iv (gt n X i a).2]):=by
 obtain⟨bl,h1,h2,h⟩:=gx.open h;apply XC;unfold L8 qR;refine use (wB i h) ?_;rintro _ j ⟨rfl,rfl⟩;refine⟨_,rfl,?_⟩;by_cases c:pg n i
 ·rw[bK c];obtain⟨hx,g⟩:=c;refine dQ (bB (λe=>?_) (λe=>bG (λb=>?_) (λb=>?_)))
  ·have hr:gt n X i a=(0,1):=cK;rw[hr];exact⟨rfl,rfl⟩
  ·have hr:gt n X i a=(0,1):=cK;rw[hr];exact⟨rfl,rfl⟩
  ·have hr:gt n X i a=(X.getD (16*i.toNat+a.toNat) 0,0):=bK ⟨⟨hx,g⟩,e,b⟩;rw[hr];have d:16*i.toNat+a.toNat<X.length:=by omega
   refine⟨_,rfl,_,rfl,⟨e,b⟩,(X[16*i.toNat+a.toNat].toNat:Int),?_,rfl,?_⟩;·rw[cj,h.cellAt 1 rfl,vh,fY,ea d];rfl
   ·simp[List.getD,d]
 ·rw[bJ c];have hr:gt n X i a=(0,1):=bJ (λf=>c f.1);rw[hr];exact⟨rfl,rfl⟩
def aKV(X:bA UInt8)(k:Nat)(b:UInt8):(hz X).set k (.int .u8 b.toNat)=hz (X.set k b):=by simp[hz,hT]
def aC2{s n:Nat}{X:bA UInt8}(i a:Int)(b:UInt8)(h:Sep E (gx s n X::L) w):
  Calls P J0 #[Pb s,Iv i,Iv a,.int .u8 b.toNat] w (cZ E (Iv (pt n X i a b).2) (gx s n (pt n X i a b).1::L)):=by
 have e:=h;obtain⟨bl,h1,h2,h⟩:=gx.open h;apply XG;unfold Mc qR;refine use (wB i h) ?_;rintro _ l ⟨rfl,rfl⟩;refine⟨_,rfl,?_⟩;by_cases d:pg n i
 ·rw[bK d];obtain⟨hx,k⟩:=d;refine dQ (bB (λf=>?_) (λf=>bG (λc=>?_) (λc=>?_)))
  ·have hr:pt n X i a b=(X,1):=cK;rw[hr];exact⟨rfl,e⟩
  ·have hr:pt n X i a b=(X,1):=cK;rw[hr];exact⟨rfl,e⟩
  ·have hr:pt n X i a b=(X.set (16*i.toNat+a.toNat) b,0):=bK ⟨⟨hx,k⟩,f,c⟩;rw[hr];refine⟨_,rfl,_,rfl,⟨f,c⟩,?_⟩;rw[cj,fY];refine St.i h.swap (by simp;omega) (λl g=>⟨rfl,?_⟩);rw[aKV]at g;exact gx.shut (by simpa using h1) h2 g.swap
 ·rw[bJ d];have hr:pt n X i a b=(X,1):=bJ (λj=>d j.1);rw[hr];exact⟨rfl,e⟩
def aAh{s n:Nat}{X:bA UInt8}(i:Int)(h:Sep E (gx s n X::L) w):
  Calls P Kk #[Pb s,Iv i] w (cZ E (Iv (cl n X i).2) (gx s n (cl n X i).1::L)):=by
 have c:=h;obtain⟨bl,h1,h2,h⟩:=gx.open h;apply Yy;unfold MT qR;refine use (wB i h) ?_;rintro _ e ⟨rfl,rfl⟩;refine⟨_,rfl,?_⟩;by_cases a:pg n i
 ·rw[bK a];have hr:cl n X i=(lH X i zs,0):=bK ⟨a,rfl⟩;rw[hr];have hx:=a.1;have f:=a.2;refine dQ ⟨_,rfl,?_⟩;refine u1.i (List.replicate 16 0) h.swap rfl rfl (by simp;omega) (λe b=>⟨rfl,?_⟩);have:(List.replicate 16 (0:Int)).map (Value.int .u8)=hz zs:=rfl;rw[this,IM h1 a rfl]at b;exact gx.shut (Cb h1 a rfl) h2 b.swap
 ·rw[bJ a];have hr:cl n X i=(X,1):=bJ (λd=>a d.1);rw[hr];exact⟨rfl,c⟩
end Go.Mp
namespace Go.Proofs
open Go.Shelf
def Tryz.g2:Go.Shelf.Ren:=⟨fun|7=>67|10=>105|n=>n,fun|23=>117|26=>3|3=>118|28=>115|0=>0|27=>114|33=>148|4=>4|n=>n,fun|n=>n⟩
def Tryz.q4:Go.Proofs.SlLaysZI.n7 Tryz.prog Tryz.g2:={
 mixed:=by kernel_rfl
 f7:=⟨f67.name,bN,func67.trans (eO some cE)⟩
 f10:=⟨f105.name,bN,func105.trans (eO some cE)⟩
 t0:=Tryz.underlying0
 a0:=Tryz.isAgg0
 z0:=Tryz.sizeOf0
 v0:=Tryz.zeroValue0
 t4:=Tryz.underlying4
 a4:=Tryz.isAgg4
 z4:=Tryz.sizeOf4
 v4:=Tryz.zeroValue4
 t23:=Tryz.underlying117
 a23:=Tryz.isAgg117
 z23:=Tryz.sizeOf117
 v23:=Tryz.zeroValue117
 t26:=Tryz.underlying3
 a26:=Tryz.isAgg3
 z26:=Tryz.sizeOf3
 v26:=Tryz.zeroValue3
 t27:=Tryz.underlying114
 a27:=Tryz.isAgg114
 z27:=Tryz.sizeOf114
 v27:=Tryz.zeroValue114
 t28:=Tryz.underlying115
 a28:=Tryz.isAgg115
 z28:=Tryz.sizeOf115
 v28:=Tryz.zeroValue115
 t33:=Tryz.underlying148
 a33:=Tryz.isAgg148
 z33:=Tryz.sizeOf148
 v33:=Tryz.zeroValue148}
def Tryz.gi:Go.Shelf.Ren:=⟨fun|7=>249|10=>278|n=>n,fun|23=>140|26=>3|3=>239|28=>115|0=>0|27=>114|33=>148|4=>4|n=>n,fun|n=>n⟩
def Tryz.ob:Go.Proofs.SlLaysZI.n7 Tryz.prog Tryz.gi:={
 mixed:=by kernel_rfl
 f7:=⟨f249.name,bN,func249.trans (eO some cE)⟩
 f10:=⟨f278.name,bN,func278.trans (eO some cE)⟩
 t0:=Tryz.underlying0
 a0:=Tryz.isAgg0
 z0:=Tryz.sizeOf0
 v0:=Tryz.zeroValue0
 t4:=Tryz.underlying4
 a4:=Tryz.isAgg4
 z4:=Tryz.sizeOf4
 v4:=Tryz.zeroValue4
 t23:=Tryz.underlying140
 a23:=Tryz.isAgg140
 z23:=Tryz.sizeOf140
 v23:=Tryz.zeroValue140
 t26:=Tryz.underlying3
 a26:=Tryz.isAgg3
 z26:=Tryz.sizeOf3
 v26:=Tryz.zeroValue3
 t27:=Tryz.underlying114
 a27:=Tryz.isAgg114
 z27:=Tryz.sizeOf114
 v27:=Tryz.zeroValue114
 t28:=Tryz.underlying115
 a28:=Tryz.isAgg115
 z28:=Tryz.sizeOf115
 v28:=Tryz.zeroValue115
 t33:=Tryz.underlying148
 a33:=Tryz.isAgg148
 z33:=Tryz.sizeOf148
 v33:=Tryz.zeroValue148}
def Tryz.eJ:Go.Shelf.Ren:=⟨fun|6=>66|8=>72|9=>104|11=>109|13=>163|12=>162|23=>229|24=>230|14=>220|15=>221|16=>222|17=>223|18=>224|19=>225|20=>226|21=>227|22=>228|25=>267|26=>268|27=>269|28=>270|29=>271|30=>272|31=>295|n=>n,fun|26=>3|28=>115|24=>22|0=>0|3=>3|37=>202|48=>285|50=>174|4=>4|40=>279|39=>278|45=>166|5=>5|9=>9|51=>322|55=>326|57=>345|58=>65|33=>148|n=>n,fun|n=>n⟩
def Tryz.mi:Go.Proofs.SlLaysZI.n6 Tryz.prog Tryz.eJ:={
 mixed:=by kernel_rfl
 f6:=⟨f66.name,bN,func66.trans (eO some cE)⟩
 f8:=⟨f72.name,bN,func72.trans (eO some cE)⟩
 f11:=⟨f109.name,bN,func109.trans (eO some cE)⟩
 t0:=Tryz.underlying0
 a0:=Tryz.isAgg0
 z0:=Tryz.sizeOf0
 v0:=Tryz.zeroValue0
 t24:=Tryz.underlying22
 a24:=Tryz.isAgg22
 z24:=Tryz.sizeOf22
 v24:=Tryz.zeroValue22
 t26:=Tryz.underlying3
 a26:=Tryz.isAgg3
 z26:=Tryz.sizeOf3
 v26:=Tryz.zeroValue3
 t28:=Tryz.underlying115
 a28:=Tryz.isAgg115
 z28:=Tryz.sizeOf115
 v28:=Tryz.zeroValue115
 i26:=by kernel_rfl}
def Tryz.mR:Go.Shelf.Ren:=⟨fun|5=>104|8=>163|7=>162|19=>229|20=>230|10=>220|11=>221|12=>222|13=>223|14=>224|15=>225|16=>226|17=>227|18=>228|30=>267|31=>268|32=>269|33=>270|34=>271|35=>272|40=>295|n=>n,fun|23=>22|25=>3|3=>3|32=>202|22=>22|0=>0|44=>285|46=>174|4=>4|36=>279|35=>278|41=>166|5=>5|9=>9|53=>322|57=>326|63=>345|64=>65|n=>n,fun|n=>n⟩
def Tryz.q5:Go.Proofs.SlLaysM.n5 Tryz.prog Tryz.mR:={
 mixed:=by kernel_rfl
 f5:=⟨f104.name,bN,func104.trans (eO some cE)⟩
 f7:=⟨f162.name,bN,func162.trans (eO some cE)⟩
 f8:=func163.trans (eO some cE)
 f10:=⟨f220.name,bN,func220.trans (eO some cE)⟩
 f11:=⟨f221.name,bN,func221.trans (eO some cE)⟩
 f12:=⟨f222.name,bN,func222.trans (eO some cE)⟩
 f13:=⟨f223.name,bN,func223.trans (eO some cE)⟩
 f14:=⟨f224.name,bN,func224.trans (eO some cE)⟩
 f15:=⟨f225.name,bN,func225.trans (eO some cE)⟩
 f16:=⟨f226.name,bN,func226.trans (eO some cE)⟩
 f17:=⟨f227.name,bN,func227.trans (eO some cE)⟩
 f18:=⟨f228.name,bN,func228.trans (eO some cE)⟩
 f19:=func229.trans (eO some cE)
 f20:=func230.trans (eO some cE)
 f30:=⟨f267.name,bN,func267.trans (eO some cE)⟩
 f31:=func268.trans (eO some cE)
 f32:=func269.trans (eO some cE)
 f33:=⟨f270.name,bN,func270.trans (eO some cE)⟩
 f34:=⟨f271.name,bN,func271.trans (eO some cE)⟩
 f35:=⟨f272.name,bN,func272.trans (eO some cE)⟩
 f40:=⟨f295.name,bN,func295.trans (eO some cE)⟩
 t0:=Tryz.underlying0
 a0:=Tryz.isAgg0
 z0:=Tryz.sizeOf0
 v0:=Tryz.zeroValue0
 t3:=Tryz.underlying3
 a3:=Tryz.isAgg3
 z3:=Tryz.sizeOf3
 v3:=Tryz.zeroValue3
 t4:=Tryz.underlying4
 a4:=Tryz.isAgg4
 z4:=Tryz.sizeOf4
 v4:=Tryz.zeroValue4
 t5:=Tryz.underlying5
 a5:=Tryz.isAgg5
 z5:=Tryz.sizeOf5
 v5:=Tryz.zeroValue5
 t9:=Tryz.underlying9
 a9:=Tryz.isAgg9
 z9:=Tryz.sizeOf9
 v9:=Tryz.zeroValue9
 t22:=Tryz.underlying22
 a22:=Tryz.isAgg22
 z22:=Tryz.sizeOf22
 v22:=Tryz.zeroValue22
 t23:=Tryz.underlying22
 a23:=Tryz.isAgg22
 z23:=Tryz.sizeOf22
 v23:=Tryz.zeroValue22
 t25:=Tryz.underlying3
 a25:=Tryz.isAgg3
 z25:=Tryz.sizeOf3
 v25:=Tryz.zeroValue3
 t32:=Tryz.underlying202
 a32:=Tryz.isAgg202
 z32:=Tryz.sizeOf202
 v32:=Tryz.zeroValue202
 t35:=Tryz.underlying278
 a35:=Tryz.isAgg278
 z35:=Tryz.sizeOf278
 v35:=Tryz.zeroValue278
 t36:=Tryz.underlying279
 a36:=Tryz.isAgg279
 z36:=Tryz.sizeOf279
 v36:=Tryz.zeroValue279
 t41:=Tryz.underlying166
 a41:=Tryz.isAgg166
 z41:=Tryz.sizeOf166
 v41:=Tryz.zeroValue166
 t44:=Tryz.underlying285
 a44:=Tryz.isAgg285
 z44:=Tryz.sizeOf285
 v44:=Tryz.zeroValue285
 t46:=Tryz.underlying174
 a46:=Tryz.isAgg174
 z46:=Tryz.sizeOf174
 v46:=Tryz.zeroValue174
 t53:=Tryz.underlying322
 a53:=Tryz.isAgg322
 z53:=Tryz.sizeOf322
 v53:=Tryz.zeroValue322
 t57:=Tryz.underlying326
 a57:=Tryz.isAgg326
 z57:=Tryz.sizeOf326
 v57:=Tryz.zeroValue326
 t63:=Tryz.underlying345
 a63:=Tryz.isAgg345
 z63:=Tryz.sizeOf345
 v63:=Tryz.zeroValue345
 t64:=Tryz.underlying65
 a64:=Tryz.isAgg65
 z64:=Tryz.sizeOf65
 v64:=Tryz.zeroValue65}
end Go.Proofs
namespace Go.Mp
open Go Go.Vc Go.Sp Go.Proofs Go.Shelf
variable{E:Env}{L:cr}{w:bI}
def Rv(m:Nat):AnyZI.SortsIn P Tryz.eJ Fence.wide m:=
  ⟨λbD off cap d W c a b=>callsIn_wide.2 (AnyM.slices_Sort_int Tryz.q5 bD off cap d W c a b),
   λp cap W=>callsIn_wide.2 (AnyM.slices_Sort_int_none Tryz.q5 p cap W)⟩
def aKk(a:bX Nat)(W:bI):Calls P CK #[.map a] W λe w'=>e=.returned (.func (.func yO) #[] #[Pb W.heap.size])/\w'=W.alloc (.cells #[.map a] (Tryz.g2.t 23)):=
 (callsIn_wide (n:=5)).1 (AnyZI.keys_in Tryz.q4 Fence.wide 5 trivial rfl a W)
def aAk{mp q:Nat}{f:Int->bX bH}(h:Sep E L w)(J:L[q]?=some (cM mp (Value.int .i64) f)){N:Nat}(C:∀k v,f k=some v->0<=k/\k<N)(hb:N<=17592186044416){G:Sl->bi9}(k:∀(s:Sl) (l:bS) (w':bI),s.n=l.length->KeysOf f l->Sep E (bw s 1 (bC l)::L) w'->G s w'):
  Calls P CK #[(.map (some mp))] w λA K=>∃d:bH,A=.returned d/\Calls P yI #[d] K λp z=>∃g:Sl,p=.returned (Sv g)/\G g z:=by
 refine(aKk _ w).mono ?_;rintro e O ⟨rfl,rfl⟩;refine⟨_,rfl,?_⟩;have h1:=h.alloc #[.map (some mp)] (Tryz.g2.t 23);have t:(bD w.heap.size [.map (some mp)]::L)[q+1]?=some (cM mp (Value.int .i64) f):=by simpa using J
 obtain⟨D,m,M,u⟩:=cM.owns (kt:=gu) h1 t cE C hb;have o:=AnyZI.keys_gives (ρ:=Tryz.g2) {Tryz.q4 with} Fence.wide 2 trivial rfl bu w.heap.size mp N D _ (by simp) (by simp) m;have H:∀args W,(callFunc yO args).run P W=.ok (.enter yO args) W:=enters_of func105 cE rfl;have B:∀args W,(callFunc (Tryz.eJ.f 9) args).run P W=.ok (.enter (Tryz.eJ.f 9) args) W:=enters_of func104 cE rfl;have F:=AnyZI.sorted_in Tryz.mi Fence.wide 5 trivial trivial trivial trivial rfl bu (Rv _) B yO #[Pb w.heap.size] trivial H _ _ (by simp[maxLen];omega) bu _ o;refine((callsIn_wide (n:=5)).1 F).mono ?_;rintro e w2 ⟨v,c,rfl,b,a,I,i⟩;obtain⟨r,j⟩:=u c b;have hlen:(c.mergeSort λx y=>decide (x<=y)).length=c.length:=List.length_mergeSort c;rw[<- hlen]at a;obtain⟨s,rfl,hn,h2⟩:=Eu h1 a i;refine⟨s,rfl,k s _ w2 hn ⟨N3 r,λk=>?_⟩ (h2.fr 1 rfl).tail⟩;rw[(Bb _ _).mem_iff];exact j k
def aKj(a:bX Nat)(W:bI):Calls P DO #[.map a] W λe w'=>e=.returned (.func (.func y3) #[] #[Pb W.heap.size])/\w'=W.alloc (.cells #[.map a] (Tryz.gi.t 23)):=
 (callsIn_wide (n:=5)).1 (AnyZI.keys_in Tryz.ob Fence.wide 5 trivial rfl a W)
def aAj{mp q:Nat}{f:Int->bX bH}(h:Sep E L w)(J:L[q]?=some (cM mp (Value.int .i64) f)){N:Nat}(C:∀k v,f k=some v->0<=k/\k<N)(hb:N<=17592186044416){G:Sl->bi9}(k:∀(s:Sl) (l:bS) (w':bI),s.n=l.length->KeysOf f l->Sep E (bw s 1 (bC l)::L) w'->G s w'):
  Calls P DO #[(.map (some mp))] w λA K=>∃d:bH,A=.returned d/\Calls P yI #[d] K λp z=>∃g:Sl,p=.returned (Sv g)/\G g z:=by
 refine(aKj _ w).mono ?_;rintro e O ⟨rfl,rfl⟩;refine⟨_,rfl,?_⟩;have h1:=h.alloc #[.map (some mp)] (Tryz.gi.t 23);have t:(bD w.heap.size [.map (some mp)]::L)[q+1]?=some (cM mp (Value.int .i64) f):=by simpa using J
 obtain⟨D,m,M,u⟩:=cM.owns (kt:=gu) h1 t cE C hb;have o:=AnyZI.keys_gives (ρ:=Tryz.gi) {Tryz.ob with} Fence.wide 2 trivial rfl bu w.heap.size mp N D _ (by simp) (by simp) m;have H:∀args W,(callFunc y3 args).run P W=.ok (.enter y3 args) W:=enters_of func278 cE rfl;have B:∀args W,(callFunc (Tryz.eJ.f 9) args).run P W=.ok (.enter (Tryz.eJ.f 9) args) W:=enters_of func104 cE rfl;have F:=AnyZI.sorted_in Tryz.mi Fence.wide 5 trivial trivial trivial trivial rfl bu (Rv _) B y3 #[Pb w.heap.size] trivial H _ _ (by simp[maxLen];omega) bu _ o;refine((callsIn_wide (n:=5)).1 F).mono ?_;rintro e w2 ⟨v,c,rfl,b,a,I,i⟩;obtain⟨r,j⟩:=u c b;have hlen:(c.mergeSort λx y=>decide (x<=y)).length=c.length:=List.length_mergeSort c;rw[<- hlen]at a;obtain⟨s,rfl,hn,h2⟩:=Eu h1 a i;refine⟨s,rfl,k s _ w2 hn ⟨N3 r,λk=>?_⟩ (h2.fr 1 rfl).tail⟩;rw[(Bb _ _).mem_iff];exact j k
end Go.Mp
namespace Go.Kc
open Go
def Pg.vs(p:Pg):bA bH:=[Iv p.kf,Iv p.ki,Iv p.place,Iv p.at_,Iv p.owner,Iv p.refs,Iv p.gen,.bool p.VL,.bool p.fl]
end Go.Kc
namespace Go.Mp.Tp
open Go Go.Vc Go.Sp Go.Kc Go.Mp
abbrev encI:Int->bH:=Value.int .i64
def gj(k:Int×Int):bH:=.agg #[Iv k.1,Iv k.2]
def Rw(a b:Int×Int)(h:gj a=gj b):a=b:=by
 obtain⟨c,d⟩:=a;obtain⟨b1,b2⟩:=b;simpa[gj]using h
def mS:ih P gu encI:=ih.int cE
def Fo:ih P yn gj:=ih.agg (d:=3) (l:=[.int .i64,.int .i64]) Rw cE bN cE (λk=>by
 unfold Typed;rw[show eB P yn=some true by kernel_rfl];exact⟨_,rfl,⟨_,rfl⟩,⟨_,rfl⟩,trivial⟩)
def Fp:ih P Jj gj:=ih.agg (d:=3) (l:=[.int .i64,.int .i64]) Rw cE bN cE (λk=>by
 unfold Typed;rw[show eB P Jj=some true by kernel_rfl];exact⟨_,rfl,⟨_,rfl⟩,⟨_,rfl⟩,trivial⟩)
def hL(S:TS)(a:Int->Nat):Int->Asn:=λid=>match S.pg id with
 |some p=>bD (a id) p.vs
 |none=>emp
def e3(S:TS)(a:Int->Nat):Int->bX bH:=λid=>(S.pg id).map λ_=>.pointer (some ⟨a id,0,none⟩)
def Fq(t mp mf ms:Nat)(a:Int->Nat)(S:TS):cr:=
 [bD t [.map (some mp),.map (some mf),.map (some ms),Iv S.next],cM mp encI (e3 S a),cM mf gj (λk=>(S.files k).map encI),cM ms gj (λk=>(S.c5 k).map encI),eW (hL S a)]
def c7(t:Nat)(S:TS):Asn:=fo λmp:Nat=>fo λmf:Nat=>fo λms:Nat=>fo λa:Int->Nat=>cA (Fq t mp mf ms a S)
variable{E:Env}{L:cr}{w:bI}
def c7.open{t:Nat}{S:TS}(h:Sep E (c7 t S::L) w):∃mp mf ms a,Sep E (bD t [.map (some mp),.map (some mf),.map (some ms),Iv S.next]::cM mp encI (e3 S a)::
  cM mf gj (λk=>(S.files k).map encI)::cM ms gj (λk=>(S.c5 k).map encI)::eW (hL S a)::L) w:=by
 obtain⟨mp,h⟩:=Sep.ex.1 h;obtain⟨mf,h⟩:=Sep.ex.1 h;obtain⟨ms,h⟩:=Sep.ex.1 h;obtain⟨a,h⟩:=Sep.ex.1 h;exact⟨mp,mf,ms,a,Sep.cA.1 h⟩
def c7.shut{t mp mf ms:Nat}{a:Int->Nat}{S:TS}(h:Sep E (bD t [.map (some mp),.map (some mf),.map (some ms),Iv S.next]::cM mp encI (e3 S a)::
  cM mf gj (λk=>(S.files k).map encI)::cM ms gj (λk=>(S.c5 k).map encI)::eW (hL S a)::L) w):Sep E (c7 t S::L) w:=
 Sep.ex.2 ⟨mp,Sep.ex.2 ⟨mf,Sep.ex.2 ⟨ms,Sep.ex.2 ⟨a,Sep.cA.2 h⟩⟩⟩⟩
def aL6{t mp q:Nat}{f:Int->bX bH}(h:Sep E L w){i:Nat}{c:bA bH}(e:L[i]?=some (bD t c))(b:c[0]?=some (.map (some mp)))(d:L[q]?=some (cM mp (Value.int .i64) f)){N:Nat}(a:∀k v,f k=some v->0<=k/\k<N)(hb:N<=17592186044416):
  Calls P vA #[Pb t] w (cC λv w'=>∃(s:Sl) (l:bS),v=Sv s/\s.n=l.length/\KeysOf f l/\Sep E (bw s 1 (bC l)::L) w'):=by
 apply WC;unfold Lj qJ qM qN;refine⟨_,rfl,some mp,by rw[cj,h.cellAt i e];exact b,aAk h d a hb (λs l w' hn hk h1=>?_)⟩;exact⟨s,l,rfl,hn,hk,h1⟩
def wC(h:Sep E L w):Calls P CI #[] w (cC λv w'=>∃t,v=Pb t/\Sep E (c7 t TS.zero::L) w'):=by
 apply WL;unfold Lr;refine cM.new (enc:=encI) h (λmp f h1=>cM.new (enc:=gj) h1 (λmf w2 h2=>cM.new (enc:=gj) h2 (λms g b=>Al.i b (λt e c=>?_))));refine⟨t,rfl,c7.shut (mp:=mp) (mf:=mf) (ms:=ms) (a:=λ_=>0) ?_⟩;have d:Sep E (eW (hL TS.zero λ_=>0)::_) e:=eW.nil c (λi=>rfl);exact d.ro 5 [1,4,3,2,0] rfl
def Rx{κ:Type}{enc:κ->bH}{b:Nat}{t kt:bZ}{g:κ->bX Int}(i:Nat)(h:Sep E L w)(c:L[i]?=some (cM b enc (λk=>(g k).map encI)))(K:ih P kt enc)(d:mQ P t=some (kt,Iv 0))(k:κ):
  gE P t (.map (some b)) (enc k) true w (.tuple #[Iv ((g k).getD 0),.bool (g k).isSome]):=by
 have:=gE.i true i h c K d k;cases a:g k with
 |none=>simpa[a]using this
 |some v=>simpa[a]using this
def se{b:Nat}{S:TS}{a:Int->Nat}(i:Nat)(h:Sep E L w)(d:L[i]?=some (cM b encI (e3 S a)))(k:Int):
  gE P Jh (.map (some b)) (Iv k) false w (.pointer ((S.pg k).map λ_=>⟨a k,0,none⟩)):=by
 have:=gE.i false i h d mS (t:=Jh) (z:=.pointer none) cE k;unfold e3 at this;cases c:S.pg k with
 |none=>simpa[c]using this
 |some v=>simpa[c]using this
def wD{t:Nat}{S:TS}(k:Int×Int)(h:Sep E (c7 t S::L) w):Calls P Dz #[Pb t,gj k] w (cZ E (Iv (S.of k)) (c7 t S::L)):=by
 obtain⟨mp,mf,ms,a,h⟩:=c7.open h;apply Yr;unfold MM qM zZ;refine Al.i h (λp d h1=>Dr.i h1 (λw2 h2=>?_));have b:=c7.shut (h2.tail);refine⟨_,rfl,some mf,by rw[cj];exact(h2.cellAt 1 rfl _).trans rfl,k.1,(h2.cellAt 0 rfl _).trans rfl,k.2,by rw[cj];exact(h2.cellAt 0 rfl _).trans rfl,_,_,Rx 3 h2 rfl Fo cE k,?_⟩;unfold TS.of;cases c:S.files k with
 |none=>exact dQ ⟨rfl,b⟩
 |some v=>exact eM ⟨rfl,b⟩
def Fs{t:Nat}{S:TS}(place at_:Int)(h:Sep E (c7 t S::L) w):Calls P DE #[Pb t,Iv place,Iv at_] w (cC λv w'=>w'=w/\v=Iv (S.at_ (place,at_))):=by
 obtain⟨mp,mf,ms,a,h⟩:=c7.open h;apply YB;unfold MY qM;refine⟨_,rfl,some ms,by rw[cj];exact(h.cellAt 0 rfl _).trans rfl,_,_,Rx 3 h rfl Fp cE (place,at_),?_⟩;unfold TS.at_;cases b:S.c5 (place,at_)with
 |none=>exact dQ ⟨rfl,rfl⟩
 |some v=>exact eM ⟨rfl,rfl⟩
def aKK{S:TS}{a:Int->Nat}{id:Int}{p:Pg}{S':TS}(c:S'.pg=cR S.pg id (some p))(b:Nat)(hb:∀j,j≠id->S.pg j≠none->(λj=>if j=id then b else a j) j=a j):hL S' (λj=>if j=id then b else a j)=fh (hL S a) id (bD b p.vs):=by
 have _:=hb;funext j;unfold hL fh;rw[c];unfold cR;by_cases h:j=id;·simp[h]
 ·simp[h]
def aJb{S:TS}{a:Int->Nat}{id:Int}{p:Pg}{S':TS}(c:S'.pg=cR S.pg id (some p))(b:Nat):e3 S' (λj=>if j=id then b else a j)=cR (e3 S a) id (some (Pb b)):=by
 funext j;unfold e3 cR;rw[c];unfold cR;by_cases h:j=id;·simp[h]
 ·simp[h]
def Au{S:TS}{a:Int->Nat}{id:Int}{p:Pg}{S':TS}(b:S'.pg=cR S.pg id (some p)):hL S' a=fh (hL S a) id (bD (a id) p.vs):=by
 funext j;unfold hL fh;rw[b];unfold cR;by_cases h:j=id;·simp[h]
 ·simp[h]
def Av{S:TS}{a:Int->Nat}{id:Int}{p q:Pg}{S':TS}(b:S'.pg=cR S.pg id (some p))(c:S.pg id=some q):e3 S' a=e3 S a:=by
 funext j;unfold e3;rw[b];unfold cR;by_cases h:j=id;·simp[h,c]
 ·simp[h]
def Ry{S:TS}{a:Int->Nat}{id:Int}{p:Pg}(h:S.pg id=some p):hL S a id=bD (a id) p.vs:=by unfold hL;rw[h]
def pw{t:Nat}{S:TS}(id:Int)(h:Sep E (c7 t S::L) w):Calls P p9 #[Pb t,Iv id] w (cZ E (.tuple #[.agg (S.get id).1.vs.toArray,Iv (S.get id).2]) (c7 t S::L)):=by
 obtain⟨mp,mf,ms,a,h⟩:=c7.open h;apply WD;unfold Lk qM qU qV qY;refine Al.i h (λr g h1=>?_);refine⟨_,rfl,some mp,by rw[cj];exact(h1.cellAt 1 rfl _).trans rfl,_,se 2 h1 rfl id,?_⟩;have fin:∀ {w2:bI} (p:Pg),Sep E (bD r p.vs::c7 t S::L) w2->∀(j:Nat) (v:bH),p.vs[j]?=some v->w2.cell? (Addr.add ⟨r,0,none⟩ j)=some v:=by
  intro w2 p h2 j v c;rw[cj,h2.cell,fz];exact c
 unfold TS.get;cases e:S.pg id with
 |none=>
  refine dQ (k5.i (h1.ro 6 [0,1,2,3,4,5] rfl) bN (λw2 h2=>?_));have b:Sep E (c7 t S::L) w2:=c7.shut h2.tail;have f:=fin Pg.zero (w2:=w2) ((c7.shut (L:=bD r Pg.zero.vs::L) (h2.ro 6 [1,2,3,4,5,0] rfl)).swap);exact⟨_,f 0 _ rfl,_,f 1 _ rfl,_,f 2 _ rfl,_,f 3 _ rfl,_,f 4 _ rfl,_,f 5 _ rfl,_,f 6 _ rfl,_,f 7 _ rfl,_,f 8 _ rfl,rfl,b⟩
 |some p=>
  have d:=eW.out (h1.fr 5 rfl) id;rw[Ry e]at d;have ld:∀(j:Nat) (v:bH),p.vs[j]?=some v->g.cell? (Addr.add ⟨a id,0,none⟩ j)=some v:=by
   intro j v c;rw[cj,d.cell,fz];exact c
  refine eM ⟨_,rfl,_,ld 0 _ rfl,_,ld 1 _ rfl,_,ld 2 _ rfl,_,ld 3 _ rfl,_,ld 4 _ rfl,_,ld 5 _ rfl,_,ld 6 _ rfl,_,ld 7 _ rfl,_,ld 8 _ rfl,?_⟩;refine k5.i (h1.ro 6 [0,1,2,3,4,5] rfl) (ec 9) (λw2 h2=>?_);have b:Sep E (c7 t S::L) w2:=c7.shut h2.tail;have f:=fin p (w2:=w2) ((c7.shut (L:=bD r p.vs::L) (h2.ro 6 [1,2,3,4,5,0] rfl)).swap);exact⟨_,f 0 _ rfl,_,f 1 _ rfl,_,f 2 _ rfl,_,f 3 _ rfl,_,f 4 _ rfl,_,f 5 _ rfl,_,f 6 _ rfl,_,f 7 _ rfl,_,f 8 _ rfl,rfl,b⟩
def Rz{t mp mf ms q p:Nat}{a:Int->Nat}{S:TS}{kf ki o:Int}{l:bA bH}(b:S.pg S.next=none)(h:Sep E (cM mp encI (cR (e3 S a) S.next (some (Pb q)))::bD q [Iv kf,Iv ki,Iv 0,Iv 0,Iv o,Iv 0,Iv 0,.bool false,.bool false]::
   bD t [.map (some mp),.map (some mf),.map (some ms),Iv (i64.wrap (S.next+1))]::bD p l::cM mf gj (λk=>(S.files k).map encI)::cM ms gj (λk=>(S.c5 k).map encI)::eW (hL S a)::L) w):
  Sep E (c7 t (S.iT kf ki o)::L) w:=by
 have h1:=h.ro 7 [1,6,2,0,4,5,3] rfl;have h2:=eW.qs (i:=S.next) h1 (by unfold hL;rw[b]);have c:=aKK (S:=S) (a:=a) (id:=S.next) (p:=⟨kf,ki,0,0,o,0,0,false,false⟩) (S':=S.iT kf ki o) rfl q (λj g _=>by simp[g]);have d:=aJb (S:=S) (a:=a) (id:=S.next) (p:=⟨kf,ki,0,0,o,0,0,false,false⟩) (S':=S.iT kf ki o) rfl q;have e:fh (hL S a) S.next (bD q [Iv kf,Iv ki,Iv 0,Iv 0,Iv o,Iv 0,Iv 0,.bool false,.bool false])=hL (S.iT kf ki o) (λj=>if j=S.next then q else a j):=c.symm;rw[e,<- d]at h2;have f:=(h2.fr 5 rfl).tail;exact c7.shut (S:=S.iT kf ki o) (f.ro 5 [1,2,3,4,0] rfl)
def As{t:Nat}{S:TS}(kf ki o:Int)(c:S.pg S.next=none)(h:Sep E (c7 t S::L) w):Calls P DA #[Pb t,gj (kf,ki),Iv o] w
  (cZ E (.tuple #[Iv (S.make kf ki o).2.1,Iv (S.make kf ki o).2.2]) (c7 t (S.make kf ki o).1::L)):=by
 obtain⟨mp,mf,ms,a,h⟩:=c7.open h;apply Ys;unfold MN qL qM qQ qU zS zZ;refine Al.i h (λp x h1=>?_);refine⟨_,rfl,S.next,by rw[cj];exact(h1.cellAt 1 rfl _).trans rfl,kf,(h1.cellAt 0 rfl _).trans rfl,?_⟩;unfold TS.make;refine cU (λhk=>?_) (λhk=>?_)
 ·rw[bK hk];refine k5.i h1 (ec 2) (λw2 h2=>?_);refine⟨_,rfl,S.next,by rw[cj];exact(h2.cellAt 1 rfl _).trans rfl,_,rfl,?_⟩;rw[cj];refine St.i h2.swap (show 3<4 by decide) (λm d=>Dr.i d (λn b=>?_));refine⟨_,rfl,some mp,by rw[cj];exact(b.cellAt 0 rfl _).trans rfl, -1,(b.cellAt 1 rfl _).trans rfl,S.next,by rw[cj];exact(b.cellAt 1 rfl _).trans rfl,?_⟩;refine Al.i b (λq r g=>?_);refine⟨some mp,by rw[cj];exact(g.cellAt 1 rfl _).trans rfl,rfl,?_⟩;refine mapUpdate.i (g.ro 7 [3,0,1,2,4,5,6] rfl) mS (z:=.pointer none) cE S.next _ (λs f=>⟨rfl,?_⟩);exact Rz c f
 ·rw[cK];refine⟨kf,(h1.cellAt 0 rfl _).trans rfl,ki,by rw[cj];exact(h1.cellAt 0 rfl _).trans rfl,?_⟩;refine use (wD (L:=bD p [Iv kf,Iv ki]::L) (S:=S) (t:=t) (kf,ki) (c7.shut (h1.ro 6 [1,2,3,4,5,0] rfl))) ?_;rintro _ w2 ⟨rfl,h2⟩;refine⟨_,rfl,hq (λl=>?_) (λu=>?_)⟩;·rw[bK l];exact⟨rfl,(h2.fr 1 rfl).tail⟩
  ·rw[cK];obtain⟨mp,mf,ms,a,h2⟩:=c7.open h2;refine Dr.i h2 (λm d=>?_);refine⟨_,rfl,some mf,by rw[cj];exact(d.cellAt 0 rfl _).trans rfl,kf,(d.cellAt 5 rfl _).trans rfl,ki,by rw[cj];exact(d.cellAt 5 rfl _).trans rfl,?_⟩;refine mapUpdate.i (d.ro 6 [2,0,1,3,4,5] rfl) Fo (z:=Iv 0) cE (kf,ki) _ (λn b=>?_);refine⟨_,rfl,S.next,by rw[cj];exact(b.cellAt 1 rfl _).trans rfl,_,rfl,?_⟩;rw[cj];refine St.i b.swap (show 3<4 by decide) (λr g=>Dr.i g (λs f=>?_));refine⟨_,rfl,some mp,by rw[cj];exact(f.cellAt 0 rfl _).trans rfl,kf,(f.cellAt 5 rfl _).trans rfl,ki,by rw[cj];exact(f.cellAt 5 rfl _).trans rfl,?_⟩;refine Al.i f (λq y i=>?_);refine⟨some mp,by rw[cj];exact(i.cellAt 1 rfl _).trans rfl,rfl,?_⟩;refine mapUpdate.i (i.ro 7 [3,0,1,6,2,4,5] rfl) mS (z:=.pointer none) cE S.next _ (λA j=>⟨rfl,?_⟩);have e:(cR (λk=>(S.files k).map encI) (kf,ki) (some (Iv S.next)))= λk=>(cR S.files (kf,ki) (some S.next) k).map encI:=by
    funext k;unfold cR;split<;>rfl
   rw[e]at j;exact Rz (S:={S with files:=cR S.files (kf,ki) (some S.next)}) c j
def c7.bL{mp:Nat}{a:Int->Nat}{S:TS}{id:Int}{p:Pg}{A B C D:Asn}(b:S.pg id=some p)(h:Sep E (A::B::C::D::eW (hL S a)::L) w):Sep E (bD (a id) p.vs::eW (fh (hL S a) id emp)::A::B::C::D::L) w:=by
 have _:=mp;have h1:=eW.out (h.fr 4 rfl) id;rw[Ry b]at h1;exact h1
def aJ8{t:Nat}{S:TS}(id n:Int)(h:Sep E (c7 t S::L) w):Calls P J2 #[Pb t,Iv id,Iv n] w
  (cZ E (.tuple #[Iv (S.bP id n).2.1,Iv (S.bP id n).2.2]) (c7 t (S.bP id n).1::L)):=by
 have b:=h;obtain⟨mp,mf,ms,a,h⟩:=c7.open h;apply XJ;unfold Mf qL qM;refine⟨_,rfl,some mp,by rw[cj];exact(h.cellAt 0 rfl _).trans rfl,_,se 1 h rfl id,?_⟩;unfold TS.bP;cases i:S.pg id with
 |none=>exact eM ⟨rfl,b⟩
 |some p=>
  refine dQ (cU (λh1=>?_) (λh1=>gv (λh2=>?_) (λh2=>?_)));·dsimp only;rw[bK (.inl h1)];exact⟨rfl,b⟩
  ·dsimp only;rw[bK (.inr (.inl h2))];exact⟨rfl,b⟩
  ·have c:=c7.bL (mp:=mp) i h;refine⟨_,rfl,p.refs,by rw[cj];exact(c.cellAt 0 rfl _).trans rfl,cU (λd=>?_) (λd=>?_)⟩;·dsimp only;rw[bK (.inr (.inr d))];exact⟨rfl,b⟩
   ·dsimp only;rw[cK];refine⟨_,rfl,p.refs,by rw[cj];exact(c.cellAt 0 rfl _).trans rfl,_,rfl,?_⟩;refine cQ.j c (show 5<9 by decide) (λw2 f=>?_);refine⟨_,rfl,i64.wrap (p.refs+n),by rw[cj];exact(f.cellAt 0 rfl _).trans rfl,rfl,?_⟩;have g:=eW.back f;have e:fh (hL S a) id (bD (a id) (p.vs.set (0+5) (Iv (i64.wrap (p.refs+n)))))=hL (S.cP id {p with refs:=i64.wrap (p.refs+n)}) a:=(Au (S':=S.cP id {p with refs:=i64.wrap (p.refs+n)}) rfl).symm;have j:e3 S a=e3 (S.cP id {p with refs:=i64.wrap (p.refs+n)}) a:=(Av rfl i).symm;rw[e,j]at g;exact c7.shut (S:=S.cP id {p with refs:=i64.wrap (p.refs+n)}) (g.ro 5 [1,2,3,4,0] rfl)
def wE{t:Nat}{S:TS}(id:Int)(h:Sep E (c7 t S::L) w):Calls P Da #[Pb t,Iv id] w
  (cZ E (Iv (S.drop id).2) (c7 t (S.drop id).1::L)):=by
 have c:=h;obtain⟨mp,mf,ms,a,h⟩:=c7.open h;apply XO;unfold Mk qL qM zZ;refine⟨_,rfl,some mp,by rw[cj];exact(h.cellAt 0 rfl _).trans rfl,_,se 1 h rfl id,?_⟩;unfold TS.drop;cases o:S.pg id with
 |none=>exact eM ⟨rfl,c⟩
 |some p=>
  have d:=c7.bL (mp:=mp) o h;refine dQ ⟨_,rfl,p.refs,by rw[cj];exact(d.cellAt 0 rfl _).trans rfl,gv (λe=>?_) (λe=>?_)⟩;·dsimp only;rw[bK (.inl e)];exact⟨rfl,c⟩
  ·refine⟨_,rfl,p.place,by rw[cj];exact(d.cellAt 0 rfl _).trans rfl,g0 (λf=>?_) (λf=>?_)⟩;·dsimp only;rw[bK (.inr f)];exact⟨rfl,c⟩
   ·dsimp only;rw[cK];refine Dr.i d (λq b=>?_);refine⟨_,rfl,some mf,by rw[cj];exact(b.cellAt 2 rfl _).trans rfl,_,rfl,p.kf,by rw[cj,cj];exact(b.cellAt 0 rfl _).trans rfl,p.ki,by rw[cj,cj];exact(b.cellAt 0 rfl _).trans rfl,?_⟩;refine gX.i (b.ro 6 [4,0,1,2,3,5] rfl) Fo (z:=Iv 0) cE (p.kf,p.ki) (λw2 g=>?_);refine⟨_,rfl,some mp,by rw[cj];exact(g.cellAt 3 rfl _).trans rfl,?_⟩;refine gX.i (g.ro 6 [4,0,1,2,3,5] rfl) mS (z:=.pointer none) cE id (λr i=>⟨rfl,?_⟩);have l:cR (e3 S a) id none=e3 {S with pg:=cR S.pg id none,files:=cR S.files (p.kf,p.ki) none} a:=by
     funext j;unfold e3 cR;dsimp only;split<;>rfl
    have m:(cR (λk=>(S.files k).map encI) (p.kf,p.ki) none)= λk=>(cR S.files (p.kf,p.ki) none k).map encI:=by
     funext k;unfold cR;split<;>rfl
    have n:fh (hL S a) id emp=hL {S with pg:=cR S.pg id none,files:=cR S.files (p.kf,p.ki) none} a:=by
     funext j;unfold hL fh cR;dsimp only;split<;>rfl
    rw[l,m,n]at i;exact c7.shut (S:={S with pg:=cR S.pg id none,files:=cR S.files (p.kf,p.ki) none}) ((i.fr 2 rfl).tail.ro 5 [3,0,1,4,2] rfl)
def aBa{t:Nat}{S:TS}(id o:Int)(b:Nat)(h:Sep E (c7 t S::bD b [Iv o]::L) w):Calls P yU #[Pb t,Iv id,.func (.func Dh) #[] #[Pb b]] w
  (cZ E (Iv (S.own id o).2) (c7 t (S.own id o).1::L)):=by
 have i:=h;obtain⟨mp,mf,ms,a,h⟩:=c7.open h;apply MW;unfold Ec qM;refine⟨_,rfl,some mp,by rw[cj];exact(h.cellAt 0 rfl _).trans rfl,_,se 1 h rfl id,?_⟩;unfold TS.own;cases f:S.pg id with
 |none=>exact eM ⟨rfl,(i.fr 1 rfl).tail⟩
 |some p=>
  refine dQ ⟨Dh,_,rfl,by kernel_rfl,?_⟩;have c:=c7.bL (mp:=mp) f h;refine use (K:=λv w'=>v=.tuple #[]/\Sep E (c7 t (S.cP id {p with owner:=o})::L) w') (X0 (some ⟨a id,0,none⟩) ⟨b,0,none⟩ ?_) ?_
  ·unfold Ms qD;refine⟨o,(c.cellAt 6 rfl _).trans rfl,_,rfl,?_⟩;refine cQ.j c (show 4<9 by decide) (λw2 k=>⟨rfl,?_⟩);have d:=eW.back k;have e:fh (hL S a) id (bD (a id) (p.vs.set (0+4) (Iv o)))=hL (S.cP id {p with owner:=o}) a:=(Au (S':=S.cP id {p with owner:=o}) rfl).symm;have g:e3 S a=e3 (S.cP id {p with owner:=o}) a:=(Av rfl f).symm;rw[e,g]at d;exact c7.shut (S:=S.cP id {p with owner:=o}) ((d.fr 5 rfl).tail.ro 5 [1,2,3,4,0] rfl)
  ·rintro v w' ⟨rfl,j⟩;exact⟨rfl,rfl,j⟩
def RA{t:Nat}{S:TS}(id o:Int)(h:Sep E (c7 t S::L) w):Calls P CU #[Pb t,Iv id,Iv o] w
  (cZ E (Iv (S.own id o).2) (c7 t (S.own id o).1::L)):=by
 apply Xm;unfold LS qC qQ;refine Al.i h (λb a h1=>use (aBa id o b h1.swap) ?_);rintro v w' ⟨rfl,h2⟩;exact⟨_,rfl,rfl,h2⟩
def aAi{t:Nat}{S:TS}(id:Int)(o:Bool)(b:Nat)(h:Sep E (c7 t S::bD b [.bool o]::L) w):Calls P yU #[Pb t,Iv id,.func (.func DC) #[] #[Pb b]] w
  (cZ E (Iv (S.mark id o).2) (c7 t (S.mark id o).1::L)):=by
 have i:=h;obtain⟨mp,mf,ms,a,h⟩:=c7.open h;apply MW;unfold Ec qM;refine⟨_,rfl,some mp,by rw[cj];exact(h.cellAt 0 rfl _).trans rfl,_,se 1 h rfl id,?_⟩;unfold TS.mark;cases f:S.pg id with
 |none=>exact eM ⟨rfl,(i.fr 1 rfl).tail⟩
 |some p=>
  refine dQ ⟨DC,_,rfl,by kernel_rfl,?_⟩;have c:=c7.bL (mp:=mp) f h;refine use (K:=λv w'=>v=.tuple #[]/\Sep E (c7 t (S.cP id {p with fl:=o})::L) w') (Yw (some ⟨a id,0,none⟩) ⟨b,0,none⟩ ?_) ?_
  ·unfold MR qm;refine⟨o,(c.cellAt 6 rfl _).trans rfl,_,rfl,?_⟩;refine cQ.j c (show 8<9 by decide) (λw2 k=>⟨rfl,?_⟩);have d:=eW.back k;have e:fh (hL S a) id (bD (a id) (p.vs.set (0+8) (.bool o)))=hL (S.cP id {p with fl:=o}) a:=(Au (S':=S.cP id {p with fl:=o}) rfl).symm;have g:e3 S a=e3 (S.cP id {p with fl:=o}) a:=(Av rfl f).symm;rw[e,g]at d;exact c7.shut (S:=S.cP id {p with fl:=o}) ((d.fr 5 rfl).tail.ro 5 [1,2,3,4,0] rfl)
  ·rintro v w' ⟨rfl,j⟩;exact⟨rfl,rfl,j⟩
def RB{t:Nat}{S:TS}(id:Int)(o:Bool)(h:Sep E (c7 t S::L) w):Calls P C6 #[Pb t,Iv id,.bool o] w
  (cZ E (Iv (S.mark id o).2) (c7 t (S.mark id o).1::L)):=by
 apply XH;unfold Md qQ;refine Al.i h (λb a h1=>use (aAi id o b h1.swap) ?_);rintro v w' ⟨rfl,h2⟩;exact⟨_,rfl,rfl,h2⟩
def RC(g:Int×Int->bX Int)(k:Int×Int)(v:bX Int):cR (λk=>(g k).map encI) k (v.map encI)= λx=>(cR g k v x).map encI:=by
 funext x;unfold cR;split<;>rfl
def aJo(g:Int×Int->bX Int)(k:Int×Int):cR (λk=>(g k).map encI) k none= λx=>(cR g k none x).map encI:=RC g k none
def aJp(g:Int×Int->bX Int)(k:Int×Int)(v:Int):cR (λk=>(g k).map encI) k (some (Value.int .i64 v))= λx=>(cR g k (some v) x).map encI:=RC g k (some v)
def uc{t:Nat}{S:TS}(id place at_:Int)(h:Sep E (c7 t S::L) w):Calls P vH #[Pb t,Iv id,Iv place,Iv at_] w
  (cZ E (Iv (S.put id place at_).2) (c7 t (S.put id place at_).1::L)):=by
 have d:=h;obtain⟨mp,mf,ms,a,h⟩:=c7.open h;apply XN;unfold Mj qL qM qQ;refine⟨_,rfl,some mp,by rw[cj];exact(h.cellAt 0 rfl _).trans rfl,_,se 1 h rfl id,?_⟩;unfold TS.put;cases q:S.pg id with
 |none=>exact eM ⟨rfl,d⟩
 |some p=>
  dsimp only;have bad:∀ {r:TS×Int},(place<0\/2<place\/at_<0\/(place=0/\at_≠0))->(Value.int .i64 1=Iv (if place<0\/2<place\/at_<0\/(place=0/\at_≠0)then(S,(1:Int))else r).2/\Sep E (c7 t (if place<0\/2<place\/at_<0\/(place=0/\at_≠0)then(S,(1:Int))else r).1::L) w):=by
   intro r hb;rw[bK hb];exact⟨rfl,d⟩
  refine dQ (cU (λc=>bad (.inl c)) (λA=>gv (λc=>bad (.inr (.inl c))) (λB=>cU (λc=>bad (.inr (.inr (.inl c)))) (λC=>eC (λe=>g0 (λc=>bad (.inr (.inr (.inr ⟨e,c⟩)))) (λl=>?_)) (λe=>?_)))));all_goals
   have s:¬ (place<0\/2<place\/at_<0\/(place=0/\at_≠0)):=by omega
   rw[bJ s];refine use (Fs place at_ d) ?_;rintro _ D ⟨rfl,rfl⟩;refine⟨_,rfl,?_⟩;refine hq (λm=>g0 (λn=>?_) (λn=>?_)) (λm=>?_);·rw[bK ⟨m,n⟩];exact⟨rfl,d⟩
   all_goals
    rw[cK];have u:=c7.bL (mp:=mp) q h;refine Dr.i u (λw2 f=>?_);refine⟨_,rfl,some ms,by rw[cj];exact(f.cellAt 2 rfl _).trans rfl,_,rfl,p.place,by rw[cj];exact(f.cellAt 0 rfl _).trans rfl,_,rfl,p.at_,by rw[cj];exact(f.cellAt 0 rfl _).trans rfl,?_⟩;refine gX.i (f.ro 6 [5,0,1,2,3,4] rfl) Fp (z:=Iv 0) cE (p.place,p.at_) (λF o=>?_);rw[aJo S.c5 (p.place,p.at_)]at o;refine⟨_,rfl,cQ.j o.swap (show 2<9 by decide) (λG x=>?_)⟩;refine⟨_,rfl,cQ.j x (show 3<9 by decide) (λH y=>?_)⟩;have i:=eW.back (y.ro 6 [0,2,1,3,4,5] rfl);have fin:∀ {sp:Int×Int->bX Int} {g:bI},Sep E (eW (fh (hL S a) id (bD (a id) ((p.vs.set (0+2) (Iv place)).set (0+3) (Iv at_))))::
      cM ms gj (λk=>(sp k).map encI)::bD t [.map (some mp),.map (some mf),.map (some ms),Iv S.next]::cM mp encI (e3 S a)::cM mf gj (λk=>(S.files k).map encI)::L) g->
      Sep E (c7 t {pg:=cR S.pg id (some {p with place:=place,at_:=at_}),files:=S.files,c5:=sp,next:=S.next} ::L) g:=by
     intro sp g b;have e:fh (hL S a) id (bD (a id) ((p.vs.set (0+2) (Iv place)).set (0+3) (Iv at_)))=hL {pg:=cR S.pg id (some {p with place:=place,at_:=at_}),files:=S.files,c5:=sp,next:=S.next} a:=
      (Au (S':={pg:=cR S.pg id (some {p with place:=place,at_:=at_}),files:=S.files,c5:=sp,next:=S.next}) rfl).symm
     have l:e3 S a=e3 {pg:=cR S.pg id (some {p with place:=place,at_:=at_}),files:=S.files,c5:=sp,next:=S.next} a:=(Av rfl q).symm;rw[e,l]at b;exact c7.shut (S:={pg:=cR S.pg id (some {p with place:=place,at_:=at_}),files:=S.files,c5:=sp,next:=S.next}) (b.ro 5 [2,3,4,1,0] rfl)
    refine g0 (λj=>?_) (λj=>?_)
    ·refine⟨_,rfl,some ms,by rw[cj];exact(i.cellAt 2 rfl _).trans rfl,?_⟩;refine mapUpdate.i (i.ro 5 [1,0,2,3,4] rfl) Fp (z:=Iv 0) cE (place,at_) _ (λg b=>⟨rfl,?_⟩);rw[aJp (cR S.c5 (p.place,p.at_) none) (place,at_) id]at b;rw[bK j];exact fin b.swap
    ·rw[bJ (by simpa using j)];exact⟨rfl,fin i⟩
structure Aw(S:TS)(l:bS):Prop where
 c1:l.Pairwise (· < ·)
 mem:∀k,k∈l↔(S.pg k).isSome=true
def eI(S:TS)(N:Nat):Prop:=∀k,(S.pg k).isSome=true->0<=k/\k<N
def Aw.le{S:TS}{l:bS}{N:Nat}(h:Aw S l)(hf:eI S N):l.length<=N:=
 r1 N l (nx.2 (h.c1.imp (λa he=>bu))) (λx hx=>hf x ((h.mem x).1 hx))
def Ft{t:Nat}{S:TS}{N:Nat}(b:eI S N)(hb:N<=17592186044416)(h:Sep E (c7 t S::L) w):
  Calls P vA #[Pb t] w (cC λv w'=>∃(s:Sl) (l:bS),v=Sv s/\s.n=l.length/\Aw S l/\Sep E (bw s 1 (bC l)::c7 t S::L) w'):=by
 obtain⟨mp,mf,ms,a,h⟩:=c7.open h;refine use (aL6 (f:=e3 S a) h (i:=0) (q:=1) rfl rfl rfl (N:=N) (λk v hk=>?_) hb) ?_
 ·refine b k ?_;unfold e3 at hk;cases c:S.pg k with
  |none=>rw[c]at hk;cases hk
  |some p=>rfl
 ·rintro v d ⟨s,l,rfl,hn,hl,h1⟩;refine⟨_,rfl,s,l,rfl,hn,⟨hl.c1,λk=>?_⟩,?_⟩;·rw[hl.mem k];unfold e3;cases S.pg k<;>simp
  ·have h2:=c7.shut (L:=bw s 1 (bC l)::L) (h1.ro 6 [1,2,3,4,5,0] rfl);exact h2.swap
def sf(S:TS)(o id:Int):Bool:=match S.pg id with
 |some p=>p.owner !=o
 |none=>true
def aKa{t:Nat}{S:TS}{N:Nat}(o:Int)(g:eI S N)(hb:N<=17592186044416)(h:Sep E (c7 t S::L) w):
  Calls P JM #[Pb t,Iv o] w (cC λv w'=>∃(s:Sl) (l:bS),v=Sv s/\Aw S l/\s.n=(l.filter λx=> !sf S o x).length/\Sep E (bw s 1 (bC (l.filter λx=> !sf S o x))::c7 t S::L) w'):=by
 apply Xl;unfold LR qC qJ qb;refine Al.i h (λc r h1=>Al.i h1 (λd w2 h2=>?_));refine⟨_,(h2.cellAt 1 rfl _).trans rfl,?_⟩;have j:Sep E (c7 t S::bD d [Iv o]::bD c [Pb t]::L) w2:=h2.ro 3 [2,0,1] rfl;refine use (Ft g hb j) ?_;rintro _ u ⟨s,l,rfl,hn,hl,k⟩;refine⟨s,rfl,?_⟩;have hlen:=hl.le g;refine use (QS (L:=c7 t S::bD d [Iv o]::bD c [Pb t]::L) (q:=sf S o) ?_ hn bu k) ?_
 ·intro m hm x z hx e;obtain⟨p,hp⟩:=jf.1 ((hl.mem x).1 hx);refine⟨J4,_,rfl,by kernel_rfl,?_⟩;refine use (K:=λv w'=>v=.bool (sf S o x)/\Sep E (bw s 1 (bC m)::c7 t S::bD d [Iv o]::bD c [Pb t]::L) w') (XZ x ⟨c,0,none⟩ ⟨d,0,none⟩ ?_) ?_
  ·unfold Mr qD qL qM qb;refine Dr.i e (λA b=>?_);obtain⟨mp,mf,ms,a,f⟩:=c7.open (b.fr 1 rfl);refine⟨_,(b.cellAt 3 rfl _).trans rfl,_,rfl,some mp,by rw[cj];exact(f.cellAt 0 rfl _).trans rfl,_,se 1 f rfl x,?_⟩;rw[hp];have n:=c7.bL (mp:=mp) hp f;refine⟨_,rfl,p.owner,by rw[cj];exact(n.cellAt 0 rfl _).trans rfl,o,(b.cellAt 2 rfl _).trans rfl,?_,b⟩;unfold sf;rw[hp]
  ·rintro v w' ⟨rfl,b⟩;exact⟨rfl,b⟩
 ·rintro _ y ⟨s',rfl,i,e⟩;have b:=(e.fr 2 rfl).tail;exact⟨s',rfl,s',l,rfl,hl,i,(b.fr 2 rfl).tail⟩
end Go.Mp.Tp
namespace Go.Mp
open Go Go.Vc Go.Sp Go.Stab
section
variable{E:Env}{L:cr}{w:bI}{s:Sl}{cmp:bH}{lt:Int->Int->Bool}{n:Nat}{R b:Int->Int->Prop}
def lQ{A X Y B:bS}{k:Nat}(hk:k<X.length):(A++X++Y++B)[A.length+k]?=X[k]? :=by
 rw[dp,dp,lP,eQ hk]
def lR{A X Y B:bS}{k:Nat}(hk:k<Y.length):(A++X++Y++B)[A.length+X.length+k]?=Y[k]? :=by
 have:A.length+X.length+k=(A++X).length+k:=by simp
 rw[this,dp,lP,eQ hk]
def wx(K:lO R b lt)(aX:n<1152921504606846976)(hn:s.n=n)(aD:gO E L s cmp lt n):∀(N:Nat) {A X Y B:bS} {w:bI},X.length+Y.length<=N->1<=X.length->1<=Y.length->
  X.Pairwise R->Y.Pairwise R->(∀x∈X,∀y∈Y,b x y)->(A++X++Y++B).length=n->Sep E (bw s 1 (bC (A++X++Y++B))::L) w->∀ {a m e:Int},a=A.length->m=A.length+X.length->e=A.length+X.length+Y.length->
  Calls P vR #[Sv s,Iv a,Iv m,Iv e,cmp] w (cC λv w'=>v=.tuple #[]/\∃Z,Z.Perm (X++Y)/\Z.Pairwise R/\Sep E (bw s 1 (bC (A++Z++B))::L) w'):=by
 intro N;induction N with
 |zero=>intro A X Y B w h1 h2;omega
 |succ N aP=>
 intro A X Y B w a5 aI aJ ao ap hb aL h a m e aW hm he;subst aW hm he;have hlen:(A++X++Y++B).length=A.length+X.length+Y.length+B.length:=by simp only[df]
 rw[hlen]at aL;have J:s.n=(A++X++Y++B).length:=by omega
 apply Zy;unfold NP qD qE qI qO qW qg qh zP;rw[cX (n:=(A.length:Int)+X.length-A.length) bu bu,cX (n:=(A.length:Int)+X.length+Y.length-(A.length+X.length)) bu bu];refine eC (λh1=>?_) (λaY=>eC (λh2=>?_) (λaZ=>?_))
 ·
  obtain⟨x,rfl⟩:∃x,X= [x]:=by
   match X,aI,h1 with
   |[x],_,_=>exact⟨x,rfl⟩
   |_::_::_,_,h=>simp at h;omega
  simp only[mx]at*
  have ay:∀y∈Y,b x y:=λy l=>hb x (by simp) y l;refine⟨λi j w=>∃p q:Nat,i=A.length+1+p/\j=A.length+1+q/\p<=q/\q<=Y.length/\(p=0\/∃y,Y[p-1]?=some y/\R y x)/\(Y.length<=q\/∃y,Y[q]?=some y/\R x y)/\Sep E (bw s 1 (bC (A++[x]++Y++B))::L) w,
   λi j _=>(j-i).toNat,⟨0,Y.length,bu,bu,bu,bu,.inl rfl,.inl (ec _),h⟩,?_⟩
  rintro _ i j aS ⟨p,q,rfl,rfl,az,aG,F,G,h1⟩;refine cU (λag=>⟨bN,Dr.i h1 (λw2 h2=>?_)⟩) (λaf=>?_)
  ·have z:((A.length:Int)+1+p+(A.length+1+q))/2=((A.length+1+(p+q)/2:Nat):Int):=by omega
   rw[half,z];have u:(p+q)/2<Y.length:=by omega
   have l:Y[(p+q)/2]?=some (Y[(p+q)/2]'u):=ea u;generalize Y[(p+q)/2]'u=y at l;have aB:y∈Y:=eG l;refine hc (A.length+1+(p+q)/2) h2 J rfl ((lR (A:=A) (X:=[x]) (B:=B) u).trans l) (hc (A.length+0) h2 J bu (by rw[lQ (by simp)];rfl) ?_);refine aD.i bu h2 (λO aa f=>?_) (λhf aa f=>?_)
   ·rw[cX bu bu];exact⟨⟨(p+q)/2+1,q,bu,rfl,bu,aG,.inr ⟨y,by simpa using l,(K.ask x y (ay y aB)).1 O⟩,G,f⟩,by dsimp only;omega⟩
   ·exact⟨⟨p,(p+q)/2,rfl,bu,bu,bu,F,.inr ⟨y,l,K.no (ay y aB) hf⟩,f⟩,by dsimp only;omega⟩
  ·have V:p=q:=by omega
   subst V;rw[cX (n:=(A.length:Int)+1+p-1) bu bu];have e0:A++[x]++Y++B=A++ins Y 0 x++B:=by simp[ins]
   rw[e0]at h1;refine⟨λk w=>∃t:Nat,k=A.length+t/\t<=p/\Sep E (bw s 1 (bC (A++ins Y t x++B))::L) w,λk _=>(A.length+p-k).toNat,⟨0,bu,bu,h1⟩,?_⟩;rintro _ k w2 ⟨t,rfl,O,h2⟩;have C:s.n=(A++ins Y t x++B).length:=by
    have:=m8 Y t x;simp only[df,this];omega
   refine cU (λag=>Dr.i h2 (λaa f=>?_)) (λaf=>?_)
   ·rw[cX (n:=(A.length:Int)+t+1) bu bu];have l:Y[t]?=some (Y[t]'bu):=du;generalize Y[t]'(bu)=y at l;refine hc (A.length+(t+1)) f C bu (by rw[kT bu bu,cK,cK];exact l) ?_;refine hc (A.length+t) f C bu (by rw[kT bu bu,cK,bK rfl]) ?_;refine kS (A.length+t) f C bu bu (λah r=>kS (A.length+t+1) r (by rw[eh];exact C) bu (by rw[eh];omega) (λaH I=>?_));rw[IK l]at I;exact⟨⟨t+1,bu,bu,I⟩,by dsimp only;omega⟩
   ·have:t=p:=by omega
    subst this;exact⟨trivial,ins Y t x,sW Y t x,sZ K.ord ap F G,h2⟩
 ·
  obtain⟨y,rfl⟩:∃y,Y= [y]:=by
   match Y,aJ,h2 with
   |[y],_,_=>exact⟨y,rfl⟩
   |_::_::_,_,h=>simp at h;omega
  simp only[mx]at*
  have ax:∀x∈X,b x y:=λx hx=>hb x hx y (by simp);refine⟨λi j w=>∃p q:Nat,i=A.length+p/\j=A.length+q/\p<=q/\q<=X.length/\(p=0\/∃x,X[p-1]?=some x/\R x y)/\(X.length<=q\/∃x,X[q]?=some x/\R y x)/\Sep E (bw s 1 (bC (A++X++[y]++B))::L) w,
   λi j _=>(j-i).toNat,⟨0,X.length,bu,bu,bu,bu,.inl rfl,.inl (ec _),h⟩,?_⟩
  rintro _ i j aS ⟨p,q,rfl,rfl,az,aG,F,G,h1⟩;refine cU (λag=>⟨bN,Dr.i h1 (λw2 h2=>?_)⟩) (λaf=>?_)
  ·have z:((A.length:Int)+p+(A.length+q))/2=((A.length+(p+q)/2:Nat):Int):=by omega
   rw[half,z];have u:(p+q)/2<X.length:=by omega
   have hx:X[(p+q)/2]?=some (X[(p+q)/2]'u):=ea u;generalize X[(p+q)/2]'u=x at hx;have aA:x∈X:=eG hx;refine hc (A.length+X.length+0) h2 J bu (by rw[lR (by simp)];rfl) (hc (A.length+(p+q)/2) h2 J rfl (by rw[lQ u];exact hx) ?_);refine aD.j bu h2 (λO aa f=>?_) (λhf aa f=>?_);·exact⟨⟨p,(p+q)/2,rfl,bu,bu,bu,F,.inr ⟨x,hx,(K.ask x y (ax x aA)).1 O⟩,f⟩,by dsimp only;omega⟩
   ·rw[cX bu bu];exact⟨⟨(p+q)/2+1,q,bu,rfl,bu,aG,.inr ⟨x,by simpa using hx,K.no (ax x aA) hf⟩,G,f⟩,by dsimp only;omega⟩
  ·have V:p=q:=by omega
   subst V;have e0:A++X++[y]++B=A++ins X X.length y++B:=by rw[x2];simp
   rw[e0]at h1;refine⟨λk w=>∃t:Nat,k=A.length+t/\p<=t/\t<=X.length/\Sep E (bw s 1 (bC (A++ins X t y++B))::L) w,λk _=>(k-A.length).toNat,⟨X.length,rfl,bu,bu,h1⟩,?_⟩;rintro _ k w2 ⟨t,rfl,O,a1,h2⟩;have C:s.n=(A++ins X t y++B).length:=by
    have:=m8 X t y;simp only[df,this];omega
   refine gv (λag=>Dr.i h2 (λaa f=>?_)) (λaf=>?_)
   ·obtain⟨M,rfl⟩:∃M,t=M+1:=⟨t-1,bu⟩
    rw[cX (n:=(A.length:Int)+((M+1:Nat):Int)-1) bu bu];have hx:X[M]?=some (X[M]'bu):=du;generalize X[M]'(bu)=x at hx;refine hc (A.length+M) f C bu (by rw[kT bu bu,eV];exact hx) ?_;refine hc (A.length+(M+1)) f C bu (by rw[kT bu bu,cK,bK rfl]) ?_;refine kS (A.length+M+1) f C bu bu (λah r=>kS (A.length+M) r (by rw[eh];exact C) bu (by rw[eh];omega) (λaH I=>?_));rw[x3 hx]at I;exact⟨⟨M,bu,bu,bu,I⟩,by dsimp only;omega⟩
   ·have:t=p:=by omega
    subst this;exact⟨trivial,ins X t y,(sW X t y).trans (mu (l₁:=[y]) (l₂:=X)),sZ K.ord ao F G,h2⟩
 ·
  refine⟨bN,?_⟩;obtain⟨d,a6⟩:∃d,d=(X.length+Y.length)/2:=⟨_,rfl⟩
  have aF:((A.length:Int)+(A.length+X.length+Y.length))/2=((A.length+d:Nat):Int):=by omega
  rw[half,aF];rw[cX (n:=((A.length+d:Nat):Int)+(A.length+X.length)) bu bu];rw[cX (n:=((A.length+d:Nat):Int)+(A.length+X.length)-(A.length+X.length+Y.length)) bu bu];rw[cX (n:=((A.length+d:Nat):Int)+(A.length+X.length)-1) bu bu];obtain⟨W,U⟩:∃W,W=if X.length>d then d-Y.length else 0:=⟨_,rfl⟩
  obtain⟨Q,T⟩:∃Q,Q=if X.length>d then d else X.length:=⟨_,rfl⟩
  have aq:W<=Q/\Q<=d/\Q<=X.length/\d<=W+Y.length:=by
   rw[U,T];split<;>omega
  refine⟨λi j w=>i=A.length+W/\j=A.length+Q/\Sep E (bw s 1 (bC (A++X++Y++B))::L) w,?_,?_⟩
  ·refine gv (λa0=>?_) (λhle=>?_)
   ·refine⟨?_,?_,h⟩;·rw[U,eV];omega
    ·rw[T,eV];omega
   ·refine⟨?_,?_,h⟩;·rw[U,cK];omega
    ·rw[T,cK]
  rintro _ i0 a7 aS ⟨rfl,rfl,h1⟩;refine⟨λi j w=>∃p q:Nat,i=A.length+p/\j=A.length+q/\W<=p/\p<=q/\q<=Q/\(p=W\/∃x y,X[p-1]?=some x/\Y[d-p]?=some y/\R x y)/\(q=Q\/∃x y,Y[d-q-1]?=some y/\X[q]?=some x/\R y x)/\
    Sep E (bw s 1 (bC (A++X++Y++B))::L) w,λi j _=>(j-i).toNat,⟨W,Q,rfl,rfl,ec _,aq.1,ec _,.inl rfl,.inl rfl,h1⟩,?_⟩
  rintro _ i j w2 ⟨p,q,rfl,rfl,aM,az,aN,F,G,h2⟩;refine cU (λag=>⟨bN,Dr.i h2 (λaa f=>?_)⟩) (λaf=>?_)
  ·have z:((A.length:Int)+p+(A.length+q))/2=((A.length+(p+q)/2:Nat):Int):=by omega
   rw[half,z];rw[cX (n:=((A.length+d:Nat):Int)+(A.length+X.length)-1-((A.length+(p+q)/2:Nat):Int)) bu bu];obtain⟨c,aK⟩:∃c,c=(p+q)/2:=⟨_,rfl⟩
   rw[<- aK];have ad:c<X.length:=by omega
   have ae:d-1-c<Y.length:=by omega
   have hx:X[c]?=some (X[c]'ad):=ea ad;have l:Y[d-1-c]?=some (Y[d-1-c]'ae):=ea ae;generalize X[c]'ad=x at hx;generalize Y[d-1-c]'ae=y at l;have al:=hb x (eG hx) y (eG l);refine hc (A.length+X.length+(d-1-c)) f J bu (by rw[lR ae];exact l) (hc (A.length+c) f J bu (by rw[lQ ad];exact hx) ?_);refine aD.j bu f (λO ah r=>?_) (λhf ah r=>?_)
   ·refine⟨⟨p,c,rfl,bu,aM,bu,bu,F,.inr ⟨x,y,?_,hx,(K.ask x y al).1 O⟩,r⟩,by dsimp only;omega⟩;rw[show d-c-1=d-1-c by omega];exact l
   ·rw[cX bu bu];refine⟨⟨c+1,q,bu,rfl,bu,bu,aN,.inr ⟨x,y,by simpa using hx,?_,K.no al hf⟩,G,r⟩,by dsimp only;omega⟩;rw[show d-(c+1)=d-1-c by omega];exact l
  ·have V:p=q:=by omega
   subst V;obtain⟨t,O⟩:∃t,t=d-p:=⟨_,rfl⟩
   have am:=x5 K.ord (X:=X) (Y:=Y) (i:=p) (j:=t) ao ap (by
    rcases F with e|⟨x,y,H,ab,ai⟩
    ·by_cases an:X.length>d;·rw[bK an]at U;right;left;omega
     ·rw[bJ an]at U;left;omega
    ·exact .inr (.inr ⟨x,y,H,by rw[O];exact ab,ai⟩)) (by
    rcases G with e|⟨x,y,H,ab,ai⟩
    ·by_cases an:X.length>d;·rw[bK an]at T;left;omega
     ·rw[bJ an]at T;right;left;omega
    ·exact .inr (.inr ⟨x,y,by rw[O];exact H,ab,ai⟩))
   have aQ:(X.take p).length=p:=by simp;omega
   have aR:(Y.take t).length=t:=by simp;omega
   have a2:(X.drop p).length=X.length-p:=by simp
   have a3:(Y.drop t).length=Y.length-t:=by simp
   have aE:i64.wrap (((A.length+d:Nat):Int)+(A.length+X.length)-(A.length+p))=((A.length+X.length+t:Nat):Int):=by
    rw[cX bu bu];omega
   rw[aE];refine⟨λw=>Sep E (bw s 1 (bC (A++(X.take p++Y.take t)++(X.drop p++Y.drop t)++B))::L) w,?_,?_⟩
   ·refine⟨λc w=>c=decide (p<X.length/\0<t)/\Sep E (bw s 1 (bC (A++X++Y++B))::L) w,?_,?_⟩
    ·refine cU (λg=>⟨?_,h2⟩) (λg=>⟨?_,h2⟩)
     ·have:(decide ((A.length:Int)+X.length<((A.length+X.length+t:Nat):Int)))=decide (0<t):=by
       by_cases o:0<t;·rw[dK o,dK bu]
       ·rw[dq o,dq bu]
      rw[this];by_cases o:0<t;·rw[dK o,dK ⟨bu,o⟩]
      ·rw[dq o,dq (λz=>o z.2)]
     ·exact(dq (λz=>bu)).symm
    rintro _ c aa ⟨rfl,f⟩;refine cy (λg=>?_) (λg=>?_)
    ·have g:=kA g;have H:A++X++Y++B=(A++X.take p)++X.drop p++Y.take t++(Y.drop t++B):=by
      simp only[dp];rw[<- dp (Y.take t),fP,<- dp (X.take p),fP]
     rw[H]at f;refine use (E6 (cmp:=cmp) bu bu (by rw[<- H];exact J) (by rw[<- H];omega) f (by simp only[df];omega) (by simp only[df];omega) (by simp only[df];omega)) ?_;rintro _ ah ⟨rfl,r⟩;refine⟨rfl,?_⟩;have ab:(A++X.take p)++Y.take t++X.drop p++(Y.drop t++B)=A++(X.take p++Y.take t)++(X.drop p++Y.drop t)++B:=by simp
     rw[<- ab];exact r
    ·have g:=kj g;have ab:A++(X.take p++Y.take t)++(X.drop p++Y.drop t)++B=A++X++Y++B:=by
      by_cases o:p<X.length
      ·have:t=0:=by omega
       subst this;simp only[uP,g3,rv,dp];rw[<- dp (X.take p),fP]
      ·have ai:X.drop p= []:=lo bu;have aU:X.take p=X:=iq bu;rw[ai,aU,l1];simp only[dp];rw[<- dp (Y.take t),fP]
     rw[ab];exact f
   rintro _ aa f;have au:(X.take p).Pairwise R:=ao.sublist (pJ _ _);have ar:(X.drop p).Pairwise R:=ao.sublist (Hp _ _);have aw:(Y.take t).Pairwise R:=ap.sublist (pJ _ _);have av:(Y.drop t).Pairwise R:=ap.sublist (Hp _ _);refine⟨λw=>∃D,D.Perm (X.take p++Y.take t)/\D.Pairwise R/\Sep E (bw s 1 (bC (A++D++(X.drop p++Y.drop t)++B))::L) w,?_,?_⟩
   ·refine⟨λc w=>c=decide (0<p/\0<t)/\Sep E (bw s 1 (bC (A++(X.take p++Y.take t)++(X.drop p++Y.drop t)++B))::L) w,?_,?_⟩
    ·refine cU (λg=>⟨?_,f⟩) (λg=>⟨?_,f⟩)
     ·by_cases o:0<t;·rw[dK bu,dK ⟨bu,o⟩]
      ·rw[dq bu,dq (λz=>o z.2)]
     ·exact(dq (λz=>bu)).symm
    rintro _ c ah ⟨rfl,r⟩;refine cy (λg=>?_) (λg=>?_)
    ·have g:=kA g;have H:A++(X.take p++Y.take t)++(X.drop p++Y.drop t)++B=A++X.take p++Y.take t++((X.drop p++Y.drop t)++B):=by simp
     rw[H]at r;refine use (aP bu bu bu au aw (λx hx y l=>hb x (oo hx) y (oo l)) (by simp only[df];omega) r rfl bu bu) ?_;rintro _ aH ⟨rfl,D,S,ak,I⟩;refine⟨rfl,D,S,ak,?_⟩;rw[dp (A++D)];exact I
    ·have g:=kj g;refine⟨_,.refl _,?_,r⟩;by_cases o:0<p
     ·have:t=0:=by omega
      subst this;simpa using au
     ·have:p=0:=by omega
      subst this;simpa using aw
   rintro _ ah ⟨D,S,aj,r⟩;have a4:D.length=d:=by rw[S.length_eq,df,aQ,aR];omega
   refine⟨λc w=>c=decide (p<X.length/\t<Y.length)/\Sep E (bw s 1 (bC (A++D++(X.drop p++Y.drop t)++B))::L) w,?_,?_⟩
   ·refine cU (λg=>⟨?_,r⟩) (λg=>⟨?_,r⟩)
    ·by_cases o:t<Y.length;·rw[dK bu,dK ⟨bu,o⟩]
     ·rw[dq bu,dq (λz=>o z.2)]
    ·exact(dq (λz=>bu)).symm
   rintro _ c aH ⟨rfl,I⟩;refine cy (λg=>?_) (λg=>?_)
   ·have g:=kA g;have H:A++D++(X.drop p++Y.drop t)++B=(A++D)++X.drop p++Y.drop t++B:=by simp
    rw[H]at I;refine use (aP bu bu bu ar av (λx hx y l=>hb x (uE hx) y (uE l)) (by simp only[df];omega) I (by simp only[df];omega) (by simp only[df];omega) (by simp only[df];omega)) ?_;rintro _ a8 ⟨rfl,aT,ak,aC,aV⟩;have:=jV S ak aj aC am;refine⟨rfl,rfl,D++aT,this.1,this.2,?_⟩;rw[<- dp A];exact aV
   ·have g:=kj g;have aO:(X.drop p++Y.drop t).Pairwise R:=by
     by_cases o:p<X.length
     ·have:Y.drop t= []:=lo bu;rw[this,g3];exact ar
     ·have:X.drop p= []:=lo bu;rw[this,l1];exact av
    have:=jV S (.refl _) aj aO am;refine⟨rfl,D++(X.drop p++Y.drop t),this.1,this.2,?_⟩;rw[<- dp A];exact I
end
end Go.Mp
