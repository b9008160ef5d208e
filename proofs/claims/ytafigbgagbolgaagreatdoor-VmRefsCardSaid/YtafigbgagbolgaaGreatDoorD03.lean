/- A part of the proof. -/
import Derived.Test.YtafigbgagbolgaaGreatDoorD02
set_option linter.all false
open Go.IntKind(i64 u64)
namespace Go.Kc
open Go Go.Kt Go.Sp
def rO{l:bA G}(h:WF l){g:Int}(hl:dB l g=true):(∀x∈dx l g,0<=x/\x<64)/\(dx l g).Nodup/\(0:Int)∈dx l g/\g∈dx l g:=by
 obtain⟨n,rfl,x,hx,i⟩:=jg.1 hl;have a:=(c2.1 hx).1;have c:=h.eI;have e:dx l (n:Int)=(chain l n).map Int.ofNat:=by unfold dx;rw[bK hl,dt]
 rw[e];refine⟨λy d=>?_,?_,fD.2 ⟨0,Uw h n a,rfl⟩,?_⟩
 ·obtain⟨z,f,rfl⟩:=fD.1 d;have:=(Bp h n a).1 z f;show(0:Int)<=(z:Int)/\(z:Int)<64;omega
 ·rw[nx,kk];exact(nx.1 (Uv h n a)).imp (λb e=>b (Int.ofNat.inj e))
 ·obtain⟨r,hr⟩:=HI l n;rw[hr];exact fD.2 ⟨n,by simp,rfl⟩
def vn{l:bA G}(h:WF l){g:Int}(hl:dB l g=true){n:Int}(hn:0<=n/\n<=top):jt (dx l g) n=true:=by
 have:=rO h hl;exact nd.2 ⟨this.1,this.2.1,hn⟩
structure hJ(T:TS):Prop where
 next:0<=T.next
 ids:∀id p,T.pg id=some p->0<=id/\id<T.next
 spot:∀pl a id,T.c5 (pl,a)=some id↔∃p,T.pg id=some p/\p.place=pl/\p.at_=a/\pl≠0
 file:∀kf ki id,T.files (kf,ki)=some id↔∃p,T.pg id=some p/\p.kf=kf/\p.ki=ki/\0<=kf
 pl:∀id p,T.pg id=some p->(0<=p.place/\p.place<=2/\0<=p.at_/\(p.place=0->p.at_=0))/\0<=p.refs
def hJ.zero:hJ TS.zero:=⟨hh _,λ_ _ h=>(by cases h),λ_ _ _=>⟨λh=>(by cases h),λ⟨_,h,_⟩=>by cases h⟩,λ_ _ _=>⟨λh=>(by cases h),λ⟨_,h,_⟩=>by cases h⟩,λ_ _ h=>by cases h⟩
variable{T:TS}
def hJ.one(h:hJ T){id c:Int}{p p':Pg}(h1:T.pg id=some p)(h2:T.pg c=some p')(d:p.place≠0)(e:p'.place=p.place)(f:p'.at_=p.at_):c=id:=by
 have a:=(h.spot p.place p.at_ id).2 ⟨p,h1,rfl,rfl,d⟩;have b:=(h.spot p.place p.at_ c).2 ⟨p',h2,e,f,d⟩;rw[a]at b;exact(cV b).symm
def Pg.to(p:Pg)(pl a:Int):Pg:={p with place:=pl,at_:=a}
def TS.ed(T:TS)(id:Int)(p:Pg)(pl a:Int):TS:=
 {pg:=cR T.pg id (some (p.to pl a)),files:=T.files,c5:=if pl≠0 then cR (cR T.c5 (p.place,p.at_) none) (pl,a) (some id)else cR T.c5 (p.place,p.at_) none,next:=T.next}
def kn{κ α:Type}[DecidableEq κ](f:κ->bX α)(k:κ)(v:bX α):cR f k v k=v:=by unfold cR;rw[bK rfl]
def dm{κ α:Type}[DecidableEq κ](f:κ->bX α){k x:κ}(v:bX α)(h:x≠k):cR f k v x=f x:=by unfold cR;rw[bJ h]
def k9{κ α:Type}[DecidableEq κ]{f:κ->bX α}{k x:κ}{v y:α}(h:cR f k (some v) x=some y):(x=k/\y=v)\/(x≠k/\f x=some y):=by
 unfold cR at h;split at h;·next e=>exact .inl ⟨e,(cV h).symm⟩
 ·next e=>exact .inr ⟨e,h⟩
def hJ.put_eq(h:hJ T){id:Int}{p:Pg}(hp:T.pg id=some p){pl a:Int}(j:0<=pl/\pl<=2/\0<=a/\(pl=0->a=0))(c:∀q b,T.pg b=some q->q.place=pl->q.at_=a->pl≠0->b=id):
  T.put id pl a=(T.ed id p pl a,0):=by
 unfold TS.put;rw[hp];dsimp only;rw[cK,bJ];·rfl
 ·rintro⟨h1,h2⟩;unfold TS.at_ at h1 h2;cases d:T.c5 (pl,a)with
  |none=>rw[d]at h1;simp at h1
  |some b=>
   rw[d]at h2;obtain⟨q,i,e,f,g⟩:=(h.spot pl a b).1 d;exact h2 (c q b i e f g)
def hJ.ed(h:hJ T){id:Int}{p:Pg}(hp:T.pg id=some p){pl a:Int}(o:0<=pl/\pl<=2/\0<=a/\(pl=0->a=0))(m:∀q n,T.pg n=some q->q.place=pl->q.at_=a->pl≠0->n=id):
  hJ (T.ed id p pl a):=by
 have j:∀x,(T.ed id p pl a).pg x=if x=id then some (p.to pl a)else T.pg x:=λx=>rfl
 refine⟨h.next,λx q b=>?_,λc a' x=>?_,λkf ki x=>?_,λx q b=>?_⟩
 ·rcases k9 b with⟨rfl,rfl⟩|⟨_,b⟩
  ·exact h.ids _ _ hp
  ·exact h.ids _ _ b
 ·have r:(T.ed id p pl a).c5 (c,a')=some x↔((pl≠0/\c=pl/\a'=a)/\x=id)\/(¬ (pl≠0/\c=pl/\a'=a)/\¬ (c=p.place/\a'=p.at_)/\T.c5 (c,a')=some x):=by
   unfold TS.ed;dsimp only;by_cases k:pl=0
   ·rw[bJ (by simpa using k)];unfold cR;by_cases e:(c,a')=(p.place,p.at_)
    ·rw[bK e];have e':c=p.place/\a'=p.at_:=by simpa using e
     simp[k,e']
    ·rw[bJ e];have e':¬ (c=p.place/\a'=p.at_):=by simpa using e
     simp[k,e']
   ·rw[bK k];unfold cR;by_cases d:(c,a')=(pl,a)
    ·rw[bK d];have l:c=pl/\a'=a:=by simpa using d
     simp[k,l,eq_comm]
    ·rw[bJ d];have l:¬ (c=pl/\a'=a):=by simpa using d
     by_cases e:(c,a')=(p.place,p.at_)
     ·rw[bK e];have e':c=p.place/\a'=p.at_:=by simpa using e
      refine⟨λg=>(by cases g),?_⟩;rintro(⟨g,_⟩|⟨_,g,_⟩);·exact absurd g.2 l
      ·exact absurd e' g
     ·rw[bJ e];have e':¬ (c=p.place/\a'=p.at_):=by simpa using e
      have:¬ (pl≠0/\c=pl/\a'=a):=λg=>l g.2;simp[this,e']
  rw[r];constructor
  ·rintro(⟨⟨k,rfl,rfl⟩,rfl⟩|⟨h1,h2,s⟩);·exact⟨_,by rw[j,bK rfl],rfl,rfl,k⟩
   ·obtain⟨q,b,f,d,i⟩:=(h.spot _ _ _).1 s;have hx:x≠id:=by
     rintro rfl;rw[hp]at b;have:=cV b;subst this;exact h2 ⟨f.symm,d.symm⟩
    exact⟨q,by rw[j,bJ hx];exact b,f,d,i⟩
  ·rintro⟨q,b,f,d,i⟩;rw[j]at b;by_cases hx:x=id
   ·rw[bK hx]at b;have:=cV b;subst this;have f:pl=c:=f;have d:a=a':=d;exact .inl ⟨⟨by rw[f];exact i,f.symm,d.symm⟩,hx⟩
   ·rw[bJ hx]at b;refine .inr ⟨λg=>hx (m q x b (by rw[f,g.2.1]) (by rw[d,g.2.2]) g.1),λg=>hx ?_,(h.spot _ _ _).2 ⟨q,b,f,d,i⟩⟩;exact h.one hp b (by rw[<- g.1];exact i) (by rw[f,g.1]) (by rw[d,g.2])
 ·show T.files (kf,ki)=some x↔_;rw[h.file];constructor
  ·rintro⟨q,b,f,d,i⟩;by_cases hx:x=id
   ·subst hx;rw[hp]at b;have:=cV b;subst this;exact⟨p.to pl a,by rw[j,bK rfl],f,d,i⟩
   ·exact⟨q,by rw[j,bJ hx];exact b,f,d,i⟩
  ·rintro⟨q,b,f,d,i⟩;rw[j]at b;by_cases hx:x=id
   ·rw[bK hx]at b;have:=cV b;subst this;subst hx;exact⟨p,hp,f,d,i⟩
   ·rw[bJ hx]at b;exact⟨q,b,f,d,i⟩
 ·rcases k9 b with⟨rfl,rfl⟩|⟨_,b⟩
  ·exact⟨o,(h.pl _ _ hp).2⟩
  ·exact h.pl _ _ b
def hJ.set(h:hJ T){id:Int}{p q:Pg}(hp:T.pg id=some p)(h1:q.place=p.place)(h2:q.at_=p.at_)(d:q.kf=p.kf)(e:q.ki=p.ki)(f:0<=q.refs):hJ (T.cP id q):=by
 have c:∀x,(T.cP id q).pg x=if x=id then some q else T.pg x:=λx=>rfl
 have key:∀ {x:Int} {R:Pg->Prop},(R p↔R q)->((∃r,T.pg x=some r/\R r)↔∃r,(T.cP id q).pg x=some r/\R r):=by
  intro x R b;rw[c];by_cases hx:x=id
  ·subst hx;rw[bK rfl,hp];constructor;·rintro⟨r,hr,h⟩;have:=cV hr;subst this;exact⟨q,rfl,b.1 h⟩
   ·rintro⟨r,hr,h⟩;have:=cV hr;subst this;exact⟨p,rfl,b.2 h⟩
  ·rw[bJ hx]
 refine⟨h.next,λx r hr=>?_,λpl a x=>?_,λkf ki x=>?_,λx r hr=>?_⟩
 ·rcases k9 hr with⟨rfl,rfl⟩|⟨_,hr⟩
  ·exact h.ids _ _ hp
  ·exact h.ids _ _ hr
 ·exact(h.spot pl a x).trans (key (R:=λr=>r.place=pl/\r.at_=a/\pl≠0) (by rw[h1,h2]))
 ·exact(h.file kf ki x).trans (key (R:=λr=>r.kf=kf/\r.ki=ki/\0<=kf) (by rw[d,e]))
 ·rcases k9 hr with⟨rfl,rfl⟩|⟨_,hr⟩
  ·have:=(h.pl _ _ hp).1;rw[h1,h2];exact⟨this,f⟩
  ·exact h.pl _ _ hr
def nf(T:TS)(pl:Int)(is:Pg->Bool):Nat->Bool:=λi=>match T.pg (i:Int)with
 |some p=>p.place==pl&&is p
 |none=>false
def jx(T:TS)(pl:Int)(is:Pg->Bool):Nat:=hZ T.next.toNat (nf T pl is)
def below(tree:bA G)(g:Int):Pg->Bool:=λp=>(dx tree p.owner).contains g
def pB(o:bX Pg)(pl:Int)(is:Pg->Bool):Bool:=match o with
 |some p=>p.place==pl&&is p
 |none=>false
def IQ(h:hJ T){T':TS}{id:Int}{p:Pg}(hp:T.pg id=some p)(hn:T'.next=T.next)(ho:∀x,x≠id->T'.pg x=T.pg x)(pl:Int)(is:Pg->Bool):
  jx T' pl is+(pB (some p) pl is).toNat=jx T pl is+(pB (T'.pg id) pl is).toNat:=by
 have eD:=h.ids _ _ hp;have:=VO (n:=T.next.toNat) (k:=id.toNat) (f:=nf T pl is) (f':=nf T' pl is) bu (λi d c=>by
  unfold nf;rw[ho (i:Int) bu])
 have e:(id.toNat:Int)=id:=by omega
 have a:nf T pl is id.toNat=pB (some p) pl is:=by unfold nf pB;rw[e,hp]
 have b:nf T' pl is id.toNat=pB (T'.pg id) pl is:=by unfold nf pB;rw[e]
 rw[a,b]at this;unfold jx;rw[hn];exact this
def vo{T':TS}{pl:Int}{is a:Pg->Bool}(hn:T'.next=T.next)(h:∀x,pB (T'.pg x) pl a=pB (T.pg x) pl is):jx T' pl a=jx T pl is:=by
 unfold jx;rw[hn];exact Cd (λi _=>h i)
structure iz(T:TS)(tree:bA G)(s:e9)(pl:Int):Prop where
 eI:s.cb.length<=1024
 len:s.dj.length=16*s.cb.length
 used:hP s.used
 taken:∀a:Nat,s.cb[a]?=some true↔∃id p,T.pg id=some p/\p.place=pl/\p.at_=a
 use:∀g,0<=g->g<64->c0 s.used g=jx T pl (below tree g)
 all:s.cb.count true=jx T pl (λ_=>true)
variable{tree:bA G}{s:e9}
def VT{n:Nat}{X:bA UInt8}(h:X.length=16*n)(i:Int):(By.cl n X i).1.length=16*n:=By.Cc h _
def iz.dE(v:hJ T)(hw:WF tree){pl:Int}(h:iz T tree s pl)(B:pl≠0){id:Int}{p:Pg}(hp:T.pg id=some p)(h1:p.place=pl)(ho:dB tree p.owner=true){T':TS}(hn:T'.next=T.next)(i:∀x,x≠id->T'.pg x=T.pg x)(eD:∀q,T'.pg id=some q->q.place≠pl):iz T' tree (s.dE p.at_ (dx tree p.owner)) pl:=by
 obtain⟨G,F⟩:=v.pl _ _ hp;obtain⟨a,w⟩:∃a:Nat,p.at_=a:=⟨p.at_.toNat,bu⟩
 have o:s.cb[a]?=some true:=(h.taken a).2 ⟨id,p,hp,h1,w⟩;have y:=rO hw ho;have A:∀is:Pg->Bool,pB (T'.pg id) pl is=false:=by
  intro is;cases d:T'.pg id with
  |none=>rfl
  |some q=>unfold pB;simp[eD q d]
 have k:∀is:Pg->Bool,jx T' pl is+(is p).toNat=jx T pl is:=by
  intro is;have:=IQ v hp hn i pl is;rw[A is]at this;simpa[pB,h1]using this
 have u:gB s.used (dx tree p.owner) 1=(dP s.used (dx tree p.owner) (-1),0):=by
  refine s7 (vn hw ho ⟨bN,bN⟩) (λg r=>?_);have l:=y.1 g r;rw[h.use g l.1 l.2];have:=k (below tree g);have hb:below tree g p=true:=lq.2 r;rw[hb]at this;simp at this;omega
 have t:nK s.cb p.at_=(s.cb.set a false,0):=by rw[w];exact VR o
 have m:=hP.dE h.used (dx tree p.owner) 1;rw[u]at m;unfold e9.dE;rw[u,t];refine⟨by simpa using h.eI,?_,m,λb=>?_,λg r l=>?_,?_⟩
 ·show(By.cl s.cb.length s.dj p.at_).1.length=16*(s.cb.set a false).length;rw[eh];exact VT h.len _
 ·show(s.cb.set a false)[b]?=some true↔_;have z:=(c2.1 o).1;by_cases e:a=b
  ·subst e;rw[jm z];refine⟨λE=>(by cases E),?_⟩;rintro⟨f,q,d,j,n⟩;by_cases hx:f=id;·subst hx;exact absurd j (eD q d)
   ·rw[i _ hx]at d;exact absurd (v.one hp d (by rw[h1];exact B) (by rw[j,h1]) (by rw[n,w])) hx
  ·rw[iM e,h.taken b];constructor
   ·rintro⟨f,q,d,j,n⟩;have hx:f≠id:=by
     rintro rfl;rw[hp]at d;have:=cV d;subst this;omega
    exact⟨f,q,by rw[i _ hx];exact d,j,n⟩
   ·rintro⟨f,q,d,j,n⟩;by_cases hx:f=id;·subst hx;exact absurd j (eD q d)
    ·rw[i _ hx]at d;exact⟨f,q,d,j,n⟩
 ·show c0 (dP s.used (dx tree p.owner) (-1)) g=_;rw[pZ h.used.len y.1 y.2.1,h.use g r l];have:=k (below tree g);by_cases hm:g∈dx tree p.owner
  ·have hb:below tree g p=true:=lq.2 hm;rw[hb]at this;rw[bK hm];simp at this;omega
  ·have hb:below tree g p=false:=by unfold below;simpa using hm
   rw[hb]at this;rw[bJ hm];simp at this;omega
 ·show(s.cb.set a false).count true=_;have C:=oy (c:=false) o;have D:=k (λ_=>true);have H:=h.all;simp at C D;omega
def iz.p0(z:hJ T)(hw:WF tree){pl:Int}(h:iz T tree s pl){id:Int}{p q:Pg}(hp:T.pg id=some p)(h1:p.place≠pl){T':TS}(hn:T'.next=T.next)(f:∀x,x≠id->T'.pg x=T.pg x)(eD:T'.pg id=some q)(v:q.place=pl)(ho:dB tree q.owner=true){a:Nat}(w:q.at_=a)(o:s.cb[a]?=some false)(n:∀g∈dx tree q.owner,c0 s.used g+1<=hy s.used g){X:bA UInt8}(A:X.length=16*s.cb.length):iz T' tree ⟨s.cb.set a true,X,dP s.used (dx tree q.owner) 1⟩ pl:=by
 have i:=rO hw ho;have j:∀is:Pg->Bool,jx T' pl is=jx T pl is+(is q).toNat:=by
  intro is;have:=IQ z hp hn f pl is;rw[eD]at this;have hb:(p.place==pl)=false:=by simpa using h1
  simpa[pB,hb,v]using this
 have t:=(c2.1 o).1;refine⟨by simpa using h.eI,by simpa using A,?_,λb=>?_,λg u l=>?_,?_⟩
 ·refine hP.mk' (by rw[nS];exact h.used.len) (λg u l=>?_);rw[pZ h.used.len i.1 i.2.1,vk h.used.len i.1 i.2.1];have ho:=h.used.of g;unfold c0 hy at*
  split;·next hm=>have:=n g hm;omega
  ·omega
 ·show(s.cb.set a true)[b]?=some true↔_;by_cases e:a=b
  ·subst e;rw[jm t];exact⟨λ_=>⟨id,q,eD,v,w⟩,λ_=>rfl⟩
  ·rw[iM e,h.taken b];constructor
   ·rintro⟨d,r,hr,k,m⟩;have hx:d≠id:=by
     rintro rfl;rw[hp]at hr;have:=cV hr;subst this;exact h1 k
    exact⟨d,r,by rw[f _ hx];exact hr,k,m⟩
   ·rintro⟨d,r,hr,k,m⟩;by_cases hx:d=id
    ·subst hx;rw[eD]at hr;have:=cV hr;subst this;omega
    ·rw[f _ hx]at hr;exact⟨d,r,hr,k,m⟩
 ·show c0 (dP s.used (dx tree q.owner) 1) g=_;rw[pZ h.used.len i.1 i.2.1,h.use g u l,j];by_cases hm:g∈dx tree q.owner
  ·have hb:below tree g q=true:=lq.2 hm;rw[hb,bK hm];simp
  ·have hb:below tree g q=false:=by unfold below;simpa using hm
   rw[hb,bJ hm];simp
 ·show(s.cb.set a true).count true=_;have y:=oy (c:=true) o;have B:=h.all;rw[j];simp at y ⊢;omega
def iz.other{pl:Int}(h:iz T tree s pl){T':TS}(hn:T'.next=T.next)(n:∀x,(T'.pg x=T.pg x)\/((∀p,T.pg x=some p->p.place≠pl)/\∀p,T'.pg x=some p->p.place≠pl)
   \/(∃p q,T.pg x=some p/\T'.pg x=some q/\q.place=p.place/\q.at_=p.at_/\q.owner=p.owner)):iz T' tree s pl:=by
 have key:∀(x:Int) (is:Pg->Bool),(∀p q:Pg,p.owner=q.owner->is p=is q)->pB (T'.pg x) pl is=pB (T.pg x) pl is:=by
  intro x is m;rcases n x with e|⟨h1,h2⟩|⟨p,q,h1,h2,c,i,k⟩
  ·rw[e]
  ·have a:pB (T.pg x) pl is=false:=by
    cases j:T.pg x with
    |none=>rfl
    |some p=>unfold pB;simp[h1 p j]
   have b:pB (T'.pg x) pl is=false:=by
    cases j:T'.pg x with
    |none=>rfl
    |some p=>unfold pB;simp[h2 p j]
   rw[a,b]
  ·rw[h1,h2];unfold pB;dsimp only;rw[c,m q p k]
 have o:∀(x a:Int),(∃p,T'.pg x=some p/\p.place=pl/\p.at_=a)↔∃p,T.pg x=some p/\p.place=pl/\p.at_=a:=by
  intro x a;rcases n x with e|⟨h1,h2⟩|⟨p,q,h1,h2,c,i,k⟩
  ·rw[e]
  ·exact⟨λ⟨p,hp,e,_⟩=>absurd e (h2 p hp),λ⟨p,hp,e,_⟩=>absurd e (h1 p hp)⟩
  ·rw[h1,h2];constructor;·rintro⟨r,hr,d,f⟩;have:=cV hr;subst this;exact⟨p,rfl,by rw[<- c,d],by rw[<- i,f]⟩
   ·rintro⟨r,hr,d,f⟩;have:=cV hr;subst this;exact⟨q,rfl,by rw[c,d],by rw[i,f]⟩
 refine⟨h.eI,h.len,h.used,λa=>?_,λg t l=>?_,?_⟩
 ·rw[h.taken a];exact⟨λ⟨x,hx⟩=>⟨x,(o x a).2 hx⟩,λ⟨x,hx⟩=>⟨x,(o x a).1 hx⟩⟩
 ·rw[h.use g t l,vo hn (λx=>key x _ (λp q e=>by unfold below;rw[e]))]
 ·rw[h.all,vo hn (λx=>key x _ (λ_ _ _=>rfl))]
end Go.Kc
namespace Go.Kc
open Go Go.Kt Go.Sp
structure Inv0(S:Cs):Prop where
 wf:WF S.tree
 gl:S.guards.length=S.tree.length
 cI:hJ S.bt
 own:∀id p,S.bt.pg id=some p->S.live p.owner=true
 fr:iz S.bt S.tree S.fr 1
 sl:iz S.bt S.tree S.sl 2
 eF:Good S.bV
 gen:∀id g,(∃e∈S.bV,e.id=id/\e.group=g)↔∃p,S.bt.pg id=some p/\p.place=1/\p.owner=g
 log:S.log.length=64
 kN:∀id p,S.bt.pg id=some p->0<=p.kf->eo S.files (p.kf,p.ki)=true/\p.place≠2
 rP:∀k t,S.files.bt k=some t->t.length=16
 ids:S.bt.next<=16777216
structure Inv(S:Cs):Prop extends Inv0 S where
 anon:∀id p,S.bt.pg id=some p->p.kf<0->p.place≠0
variable{R:bA dI}
def IS(G:Good R){id x g:Int}:(∃e∈(jv R id).1,e.id=x/\e.group=g)↔x≠id/\∃e∈R,e.id=x/\e.group=g:=by
 unfold jv;split
 ·constructor
  ·rintro⟨e,he,rfl,rfl⟩;rw[gp]at he;exact⟨by simpa using he.2,e,he.1,rfl,rfl⟩
  ·rintro⟨hx,e,he,rfl,rfl⟩;exact⟨e,gp.2 ⟨he,by simpa using hx⟩,rfl,rfl⟩
 ·next hf=>
  have hf:fq R id=none:=by simpa using hf
  have hn:=(s0 G.c1).1 hf;constructor;·rintro⟨e,he,rfl,rfl⟩;exact⟨hn e he,e,he,rfl,rfl⟩
  ·rintro⟨_,h⟩;exact h
def VU{id:Int}(h:(fq R id).isSome=true):(jv R id).1.length<R.length:=by
 unfold jv;rw[bK h];obtain⟨e,he⟩:=jf.1 h;have hm:e∈R:=xn he;have hp:e.id=id:=by simpa using Ht he
 rcases hE (R.filter λe=>e.id !=id).length R.length with h1|h1;·exact h1
 ·exfalso;have h2:(R.filter λe=>e.id !=id).length=R.length:=Nat.le_antisymm (mw _ _) h1;have a:=List.length_filter_eq_length_iff.1 h2 e hm;simp[hp]at a
def VV{id x g:Int}:(∃e∈(hH R id).1,e.id=x/\e.group=g)↔∃e∈R,e.id=x/\e.group=g:=by
 unfold hH;split
 ·constructor
  ·rintro⟨e,he,rfl,rfl⟩;obtain⟨y,a,rfl⟩:=fD.1 he;refine⟨y,a,?_,?_⟩<;>split<;>rfl
  ·rintro⟨y,a,rfl,rfl⟩;refine⟨_,fD.2 ⟨y,a,rfl⟩,?_,?_⟩<;>split<;>rfl
 ·exact mz
def VW(G:Good R){id g:Int}{ek:Bool}(hb:¬ ix id g)(hf:fq R id=none){x o:Int}:(∃e∈(jW R id g ek).1,e.id=x/\e.group=o)↔(x=id/\o=g)\/∃e∈R,e.id=x/\e.group=o:=by
 unfold jW;rw[bJ hb,hf];simp only[Uo,lZ,gU];have hm:=λy=>x6 (R:=R) (x:=⟨id,g,if ek then 1 else 0⟩) (y:=y) ((s0 G.c1).1 hf);constructor
 ·rintro⟨e,he,rfl,rfl⟩;rcases(hm e).1 he with rfl|he;·exact .inl ⟨rfl,rfl⟩
  ·exact .inr ⟨e,he,rfl,rfl⟩
 ·rintro(⟨rfl,rfl⟩|⟨e,he,rfl,rfl⟩);·exact⟨_,(hm _).2 (.inl rfl),rfl,rfl⟩
  ·exact⟨e,(hm _).2 (.inr he),rfl,rfl⟩
def VX(G:Good R){id:Int}:(fq R id).isSome=true↔∃e∈R,e.id=id:=by
 constructor
 ·intro h;obtain⟨e,he⟩:=jf.1 h;have:=(k7 G.c1).1 he;exact⟨e,this.1,this.2⟩
 ·rintro⟨e,he,eD⟩;rw[(k7 G.c1).2 ⟨he,eD⟩];rfl
def VY{g:Int}{c:Int->Int->Int×Int}(f:∀a b,(c a b).1=a){x o:Int}:(∃e∈(iI R g c).1,e.id=x/\e.group=o)↔∃e∈R,e.id=x/\e.group=o:=by
 have h:∀e:dI,(jX g c e).group=e.group:=λe=>by unfold jX;split<;>simp[f]
 constructor
 ·rintro⟨e,he,rfl,rfl⟩;obtain⟨y,d,rfl⟩:=fD.1 he;exact⟨y,d,(s3 g c y).symm,(h y).symm⟩
 ·rintro⟨y,d,rfl,rfl⟩;exact⟨_,fD.2 ⟨y,d,rfl⟩,s3 g c y,h y⟩
def VZ{g:Int}{a:Int->Int->Int×Int}:(iI R g a).1.length=R.length:=by unfold iI;simp
variable{S:Cs}
def Inv.new(bQ cg:Int)(bU:bS):Inv (new bQ cg bU):=by
 have b:∀n pl,iz TS.zero Kt.new (gL n) pl:=by
  intro n pl;have c:∀is:Pg->Bool,jx TS.zero pl is=0:=λis=>rfl;refine⟨by show(List.replicate _ false).length<=1024;simp;omega,by show(List.replicate _ (0:UInt8)).length=16*(List.replicate _ false).length;simp,hP.new,λa=>?_,λg d h1=>?_,?_⟩
  ·constructor
   ·intro h;have h:(List.replicate (min (max n 0).toNat 1024) false)[a]?=some true:=h;rw[oh]at h;split at h<;>simp at h
   ·rintro⟨_,_,h,_⟩;cases h
  ·rw[c];show c0 (List.replicate 64 ⟨0,top⟩) g=0;unfold c0 hO;split;·rw[dC,oh,eV];rfl
   ·rfl
  ·rw[c];show(List.replicate (min (max n 0).toNat 1024) false).count true=0;rw[List.count_replicate];rfl
 exact⟨⟨Ux,rfl,hJ.zero,λ_ _ h=>(by cases h),b _ _,b _ _,Good.nil,λid g=>⟨λ⟨_,h,_⟩=>(by cases h),λ⟨_,h,_⟩=>by cases h⟩,mW,λ_ _ h=>(by cases h),λ_ _ h=>(by cases h),(by show(0:Int)<=16777216;decide)⟩,λ_ _ h=>by cases h⟩
def Inv.p1(h:Inv S){R:bA dI}(a:Good R)(hm:∀x o,(∃e∈R,e.id=x/\e.group=o)↔∃e∈S.bV,e.id=x/\e.group=o):Inv {S with bV:=R} :=
 {h with eF:=a,gen:=λid g=>(hm id g).trans (h.gen id g)}
def Inv.file(h:Inv S){k:Int×Int}{t:bA UInt8}:Inv {S with files:=(nN S.files k t).1} :=by
 unfold nN;split;·exact h
 ·split;·exact h
  ·next a=>
   have a:t.length=16:=by simpa using a
   refine {h with kN:=λid p hp=>?_,rP:=λx u hu=>?_};·exact h.kN id p hp
   ·have hu:(if x=k then some t else S.files.bt x)=some u:=hu;split at hu;·rw[<- cV hu];exact a
    ·exact h.rP x u hu
def Inv.cP(h:Inv S){id:Int}{p q:Pg}(hp:S.bt.pg id=some p)(h1:q.place=p.place)(h2:q.at_=p.at_)(c:q.kf=p.kf)(d:q.ki=p.ki)(i:0<=q.refs)(b:q.owner=p.owner):Inv {S with bt:=S.bt.cP id q} :=by
 have j:∀x,((S.bt.cP id q).pg x=S.bt.pg x)\/((∀p,S.bt.pg x=some p->p.place≠1)/\∀p,(S.bt.cP id q).pg x=some p->p.place≠1)\/(∃p a,S.bt.pg x=some p/\(S.bt.cP id q).pg x=some a/\a.place=p.place/\a.at_=p.at_/\a.owner=p.owner):=by
  intro x;by_cases hx:x=id;·subst hx;exact .inr (.inr ⟨p,q,hp,kn _ _ _,h1,h2,b⟩)
  ·exact .inl (dm _ _ hx)
 have f:∀x,((S.bt.cP id q).pg x=S.bt.pg x)\/((∀p,S.bt.pg x=some p->p.place≠2)/\∀p,(S.bt.cP id q).pg x=some p->p.place≠2)\/(∃p a,S.bt.pg x=some p/\(S.bt.cP id q).pg x=some a/\a.place=p.place/\a.at_=p.at_/\a.owner=p.owner):=by
  intro x;by_cases hx:x=id;·subst hx;exact .inr (.inr ⟨p,q,hp,kn _ _ _,h1,h2,b⟩)
  ·exact .inl (dm _ _ hx)
 refine {h with cI:=h.cI.set hp h1 h2 c d i,own:=λx r hr=>?_,fr:=h.fr.other rfl j,sl:=h.sl.other rfl f,gen:=λx g=>?_,kN:=λx r hr=>?_,anon:=λx r hr=>?_}
 ·rcases k9 hr with⟨rfl,rfl⟩|⟨_,hr⟩
  ·show S.live r.owner=true;rw[b];exact h.own _ _ hp
  ·exact h.own _ _ hr
 ·show(∃e∈S.bV,e.id=x/\e.group=g)↔∃r,cR S.bt.pg id (some q) x=some r/\r.place=1/\r.owner=g;rw[h.gen];by_cases hx:x=id
  ·subst hx;rw[kn,hp];constructor;·rintro⟨r,hr,e⟩;have:=cV hr;subst this;exact⟨q,rfl,by rw[h1,b];exact e⟩
   ·rintro⟨r,hr,e⟩;have:=cV hr;subst this;exact⟨p,rfl,by rw[<- h1,<- b];exact e⟩
  ·rw[dm _ _ hx]
 ·rcases k9 hr with⟨rfl,rfl⟩|⟨_,hr⟩
  ·rw[h1,c,d];exact h.kN _ _ hp
  ·exact h.kN _ _ hr
 ·rcases k9 hr with⟨rfl,rfl⟩|⟨_,hr⟩
  ·rw[h1,c];exact h.anon _ _ hp
  ·exact h.anon _ _ hr
def Inv.mark(h:Inv S)(id:Int)(d:Bool):Inv {S with bt:=(S.bt.mark id d).1} :=by
 unfold TS.mark;cases hp:S.bt.pg id with
 |none=>exact h
 |some p=>exact h.cP hp rfl rfl rfl rfl (h.cI.pl _ _ hp).2 rfl
def Inv.clean(h:Inv S)(id:Int)(p:Pg):Inv (S.clean id p):=by
 unfold Cs.clean;split;·exact(h.file (k:=(p.kf,p.ki)) (t:=S.text p)).mark id false
 ·exact h
def Inv.cq(h:Inv S)(id:Int):Inv {S with bV:=(hH S.bV id).1} :=h.p1 (h.eF.cq id) (λ_ _=>VV)
def x9:∀(l:bS) {R:bA dI},Good R->Good (g9 R l).1/\(∀x o,(∃e∈(g9 R l).1,e.id=x/\e.group=o)↔∃e∈R,e.id=x/\e.group=o)/\(g9 R l).1.length=R.length
 |[],_,h=>⟨h,λ_ _=>mz,rfl⟩
 |g::l,R,h=>by
  have h1:=x9 l (h.dD g);refine⟨h1.1,λx o=>(h1.2.1 x o).trans (VY (λa b=>rfl)),?_⟩;show(g9 (iI R g jY).1 l).1.length=_;rw[h1.2.2,VZ]
def Inv.dD(h:Inv S)(t:Int):Inv (S.dD t).1:=by
 have:=x9 (iu S.tree t) h.eF;exact h.p1 this.1 this.2.1
def Inv0.bL(_:Inv0 S){id:Int}{p:Pg}(hp:S.bt.pg id=some p):S.bt.get id=(p,0):=by unfold TS.get;rw[hp]
def IT(l:bS)(g:Int):(dZ l g).1.length=l.length:=by unfold dZ;split<;>simp
def jH(T:TS)(id:Int)(p:Pg)(pl a x:Int):(T.ed id p pl a).pg x=if x=id then some (p.to pl a)else T.pg x:=rfl
def Inv0.nT(h:Inv0 S){id:Int}{p:Pg}(hp:S.bt.pg id=some p):S.bt.put id 0 0=(S.bt.ed id p 0 0,0):=
 h.cI.put_eq hp ⟨bN,bN,bN,λ_=>rfl⟩ (λ_ _ _ _ _ h=>absurd rfl h)
def Inv0.l8(h:Inv0 S){id:Int}{p:Pg}(hp:S.bt.pg id=some p)(h1:p.place=1){lg:bS}(j:lg.length=64){K:Int->bX Int}:
  Inv0 {S with bt:=S.bt.ed id p 0 0,fr:=S.fr.dE p.at_ (dx S.tree p.owner),bV:=(jv S.bV id).1,log:=lg,kept:=K} :=by
 have k:∀q f,S.bt.pg f=some q->q.place=0->q.at_=0->(0:Int)≠0->f=id:=λ_ _ _ _ _ h=>absurd rfl h;have l:=h.cI.ed hp (pl:=0) (a:=0) ⟨bN,bN,bN,λ_=>rfl⟩ k;have d:∀x,x≠id->(S.bt.ed id p 0 0).pg x=S.bt.pg x:=λx hx=>dm _ _ hx;refine⟨h.wf,h.gl,l,λx r hr=>?_,h.fr.dE h.cI h.wf bN hp h1 (h.own _ _ hp) rfl d (λq b=>?_),h.sl.other rfl (λx=>?_),h.eF.drop id,λx g=>?_,j,λx r hr=>?_,h.rP,h.ids⟩
 ·rcases k9 hr with⟨rfl,rfl⟩|⟨_,hr⟩
  ·show S.live p.owner=true;exact h.own _ _ hp
  ·exact h.own _ _ hr
 ·rw[jH,bK rfl]at b;rw[<- cV b];show(0:Int)≠1;decide
 ·by_cases hx:x=id
  ·subst hx;refine .inr (.inl ⟨λq b=>?_,λq b=>?_⟩);·rw[hp]at b;rw[<- cV b,h1];decide
   ·rw[jH,bK rfl]at b;rw[<- cV b];show(0:Int)≠2;decide
  ·exact .inl (d x hx)
 ·show(∃e∈(jv S.bV id).1,e.id=x/\e.group=g)↔∃r,(S.bt.ed id p 0 0).pg x=some r/\r.place=1/\r.owner=g;rw[IS h.eF,h.gen,jH];by_cases hx:x=id
  ·rw[bK hx];refine⟨λc=>absurd hx c.1,?_⟩;rintro⟨r,hr,e,_⟩;rw[<- cV hr]at e;have e:(0:Int)=1:=e;omega
  ·rw[bJ hx];exact⟨λc=>c.2,λc=>⟨hx,c⟩⟩
 ·rcases k9 hr with⟨rfl,rfl⟩|⟨_,hr⟩
  ·exact λi=>⟨(h.kN _ _ hp i).1,by show(0:Int)≠2;decide⟩
  ·exact h.kN _ _ hr
def Inv0.rQ(h:Inv0 S){id:Int}{p:Pg}(hp:S.bt.pg id=some p)(h1:p.place=2):
  Inv0 {S with bt:=S.bt.ed id p 0 0,sl:=S.sl.dE p.at_ (dx S.tree p.owner)} :=by
 have i:∀q d,S.bt.pg d=some q->q.place=0->q.at_=0->(0:Int)≠0->d=id:=λ_ _ _ _ _ h=>absurd rfl h;have j:=h.cI.ed hp (pl:=0) (a:=0) ⟨bN,bN,bN,λ_=>rfl⟩ i;have c:∀x,x≠id->(S.bt.ed id p 0 0).pg x=S.bt.pg x:=λx hx=>dm _ _ hx;refine⟨h.wf,h.gl,j,λx r hr=>?_,h.fr.other rfl (λx=>?_),h.sl.dE h.cI h.wf bN hp h1 (h.own _ _ hp) rfl c (λq b=>?_),h.eF,λx g=>?_,h.log,λx r hr=>?_,h.rP,h.ids⟩
 ·rcases k9 hr with⟨rfl,rfl⟩|⟨_,hr⟩
  ·show S.live p.owner=true;exact h.own _ _ hp
  ·exact h.own _ _ hr
 ·by_cases hx:x=id
  ·subst hx;refine .inr (.inl ⟨λq b=>?_,λq b=>?_⟩);·rw[hp]at b;rw[<- cV b,h1];decide
   ·rw[jH,bK rfl]at b;rw[<- cV b];show(0:Int)≠1;decide
  ·exact .inl (c x hx)
 ·rw[jH,bK rfl]at b;rw[<- cV b];show(0:Int)≠2;decide
 ·show(∃e∈S.bV,e.id=x/\e.group=g)↔∃r,(S.bt.ed id p 0 0).pg x=some r/\r.place=1/\r.owner=g;rw[h.gen,jH];by_cases hx:x=id
  ·subst hx;rw[bK rfl,hp];constructor
   ·rintro⟨r,hr,e,_⟩;rw[<- cV hr,h1]at e;cases e
   ·rintro⟨r,hr,e,_⟩;rw[<- cV hr]at e;have e:(0:Int)=1:=e;omega
  ·rw[bJ hx]
 ·rcases k9 hr with⟨rfl,rfl⟩|⟨_,hr⟩
  ·exact λf=>⟨(h.kN _ _ hp f).1,by show(0:Int)≠2;decide⟩
  ·exact h.kN _ _ hr
def Inv.rR(h:Inv S){id:Int}{p:Pg}(hp:S.bt.pg id=some p)(h1:p.place=1)(hk:0<=p.kf):Inv ({S with bt:=(S.bt.put id 0 0).1}.leave id p (S.chain p.owner)):=by
 rw[h.nT hp];refine⟨h.l8 hp h1 (by rw[IT];exact h.log),λx r hr a=>?_⟩;rcases k9 hr with⟨rfl,rfl⟩|⟨_,hr⟩
 ·exact absurd hk (by have:p.kf<0:=a;omega)
 ·exact h.anon _ _ hr a
def Inv.fF(h:Inv S){id:Int}{p:Pg}(hp:S.bt.pg id=some p)(h1:p.place=1)(hk:p.kf<0)(hw:(S.fF id p (S.chain p.owner)).2=true):Inv ((S.fF id p (S.chain p.owner)).1.leave id p (S.chain p.owner)):=by
 unfold Cs.fF at hw ⊢;split at hw;·cases hw
 next f=>
 rw[bJ f];dsimp only at hw ⊢;split at hw;·cases hw
 next hf=>
 rw[bJ hf];dsimp only;have hf:(gf S.sl.cb).2.2=0:=by simpa using hf
 obtain⟨a,m,_,he⟩:=Ce hf;rw[he];dsimp only;have z:=(c2.1 m).1;have c:=h.own _ _ hp;have B:=rO h.wf c;have i:∀g∈dx S.tree p.owner,c0 S.sl.used g+1<=hy S.sl.used g:=by
  intro g n;have:=(not_exists.1 (λb=>f (uM.2 b))) g;simp only[gD,not_and,Int.not_le]at this;have:=this n;omega
 have o:ds S.sl.used (S.chain p.owner) 1=(dP S.sl.used (dx S.tree p.owner) 1, -1,0):=by
  by_cases s:(ds S.sl.used (S.chain p.owner) 1).2.2=0;·exact(vl s).2.1
  ·obtain⟨g,n,_,_,A⟩:=vm (vn h.wf c ⟨bN,bN⟩) s;have:=i g n;omega
 rw[o];have l:∀q d,S.bt.pg d=some q->q.place=2->q.at_=(a:Int)->(2:Int)≠0->d=id:=by
  intro q d k u v _;have:=(h.sl.taken a).2 ⟨d,q,k,u,v⟩;rw[m]at this;cases this
 rw[h.cI.put_eq hp ⟨bN,bN,bu,λb=>absurd b bN⟩ l];have w:=h.cI.ed hp (pl:=2) (a:=a) ⟨bN,bN,bu,λb=>absurd b bN⟩ l;have j:∀x,x≠id->(S.bt.ed id p 2 a).pg x=S.bt.pg x:=λx hx=>dm _ _ hx;have y:(By.wr (S.sl.cb.set a true).length S.sl.dj a (S.text p)).1.length=16*S.sl.cb.length:=by
  rw[eh];exact By.Cc h.sl.len _
 unfold Cs.leave;dsimp only;refine⟨⟨h.wf,h.gl,w,λx r hr=>?_,h.fr.dE h.cI h.wf bN hp h1 (h.own _ _ hp) rfl j (λq k=>?_),?_,h.eF.drop id,λx g=>?_,?_,λx r hr=>?_,h.rP,h.ids⟩,λx r hr=>?_⟩
 ·rcases k9 hr with⟨rfl,rfl⟩|⟨_,hr⟩
  ·show S.live p.owner=true;exact h.own _ _ hp
  ·exact h.own _ _ hr
 ·rw[jH,bK rfl]at k;rw[<- cV k];show(2:Int)≠1;decide
 ·exact h.sl.p0 (T':=S.bt.ed id p 2 a) h.cI h.wf hp (by rw[h1];decide) rfl j (q:=p.to 2 a) (by rw[jH,bK rfl]) rfl c rfl m i y
 ·show(∃e∈(jv S.bV id).1,e.id=x/\e.group=g)↔∃r,(S.bt.ed id p 2 a).pg x=some r/\r.place=1/\r.owner=g;rw[IS h.eF,h.gen,jH];by_cases hx:x=id
  ·rw[bK hx];refine⟨λb=>absurd hx b.1,?_⟩;rintro⟨r,hr,e,_⟩;rw[<- cV hr]at e;have e:(2:Int)=1:=e;omega
  ·rw[bJ hx];exact⟨λb=>b.2,λb=>⟨hx,b⟩⟩
 ·show(dZ S.log p.owner).1.length=64;rw[IT];exact h.log
 ·rcases k9 hr with⟨rfl,rfl⟩|⟨_,hr⟩
  ·exact λt=>absurd hk (by have:0<=p.kf:=t;omega)
  ·exact h.kN _ _ hr
 ·rcases k9 hr with⟨rfl,rfl⟩|⟨_,hr⟩
  ·exact λ_=>by show(2:Int)≠0;decide
  ·exact h.anon _ _ hr
def s8{id:Int}(ho:(S.out id).2=false):(S.out id).1=S:=by
 unfold Cs.out at ho ⊢;dsimp only at ho ⊢;split at ho;·cases ho
 ·next a=>
  rw[bJ a];split at ho;·cases ho
  ·next h2=>rw[bJ h2]
def Ci(id:Int)(p q:Pg)(b:S.bt.pg id=some q):∃a,(S.clean id p).bt.pg id=some a/\a.place=q.place/\a.at_=q.at_/\a.kf=q.kf/\a.ki=q.ki/\a.owner=q.owner/\a.refs=q.refs:=by
 unfold Cs.clean;split
 ·show ∃a,(S.bt.mark id false).1.pg id=some a/\_;unfold TS.mark;rw[b];exact⟨_,kn _ _ _,rfl,rfl,rfl,rfl,rfl,rfl⟩
 ·exact⟨q,b,rfl,rfl,rfl,rfl,rfl,rfl⟩
def ya(id:Int)(p:Pg):(S.clean id p).tree=S.tree/\(S.clean id p).fr=S.fr/\(S.clean id p).sl=S.sl/\(S.clean id p).bV=S.bV/\(S.clean id p).log=S.log/\(S.clean id p).kept=S.kept/\(S.clean id p).guards=S.guards:=by
 unfold Cs.clean;split<;>exact⟨rfl,rfl,rfl,rfl,rfl,rfl,rfl⟩
def Inv.out(h:Inv S){id:Int}{p:Pg}(hp:S.bt.pg id=some p)(h1:p.place=1):Inv (S.out id).1:=by
 cases ho:(S.out id).2 with
 |false=>rw[s8 ho];exact h
 |true=>
  unfold Cs.out at ho ⊢;rw[h.bL hp]at ho ⊢;dsimp only at ho ⊢;by_cases hk:0<=p.kf
  ·rw[bK hk];dsimp only;have a:=h.clean id p;obtain⟨q,g,c,d,e,o,f,r⟩:=Ci id p p hp;obtain⟨b,i,j,k,l,m,n⟩:=ya (S:=S) id p;have:=a.rR g (by rw[c,h1]) (by rw[e];exact hk);have el:∀S':Cs,S'.leave id q ((S.clean id p).chain q.owner)=S'.leave id p (S.chain p.owner):=by
    intro S';unfold Cs.leave Cs.chain;rw[d,f,b]
   rw[el]at this;exact this
  ·rw[bJ hk]at ho ⊢;split at ho;·next hw=>rw[bK hw];exact h.fF hp h1 bu hw
   ·cases ho
def V2{id:Int}(ho:(S.out id).2=true):(S.out id).1.bV=(jv S.bV id).1:=by
 unfold Cs.out at ho ⊢;dsimp only at ho ⊢;split
 ·show(jv (S.clean id _).bV id).1=_;rw[(ya id _).2.2.2.1]
 ·next a=>
  rw[bJ a]at ho;split
  ·show(jv (S.fF id _ _).1.bV id).1=_;congr 1;unfold Cs.fF;split;·rfl
   ·dsimp only;split<;>rfl
  ·next h2=>rw[bJ h2]at ho;cases ho
def yb{R:bA dI}{gs:bS}{id:Int}(h:id∈jw R gs):∃e∈R,e.id=id/\e.group∈gs:=by
 unfold jw at h;obtain⟨a,_,h⟩:=Bg.1 h;obtain⟨e,he,rfl⟩:=fD.1 h;rw[gp,dF]at he;exact⟨e,he.1,rfl,by simpa using he.2.1⟩
def s9{held:Int->Bool}:∀(l:bS) {S:Cs},(pass held l S).2=false->(pass held l S).1=S
 |[],_,_=>rfl
 |id::l,S,h=>by
  unfold pass at h ⊢;split;·next a=>rw[bK a]at h;exact s9 l h
  ·next a=>
   rw[bJ a]at h;dsimp only at h ⊢;split;·next ho=>rw[bK ho]at h;cases h
   ·next ho=>
    rw[bJ ho]at h;have ho:(S.out id).2=false:=by simpa using ho
    rw[s8 ho]at h ⊢;exact s9 l h
def yc{held:Int->Bool}:∀(l:bS) {S:Cs},(pass held l S).2=true->∃id,id∈l/\held (S.bt.get id).1.owner=false/\(S.out id).2=true/\(pass held l S).1=(S.out id).1
 |[],_,h=>by cases h
 |id::l,S,h=>by
  unfold pass at h ⊢;split
  ·next a=>
   rw[bK a]at h;obtain⟨x,h1,h2⟩:=yc l h;exact⟨x,gn _ h1,h2⟩
  ·next a=>
   rw[bJ a]at h;dsimp only at h ⊢;split;·next ho=>exact⟨id,fS ..,by simpa using a,ho,rfl⟩
   ·next ho=>
    rw[bJ ho]at h;have ho:(S.out id).2=false:=by simpa using ho
    rw[s8 ho]at h ⊢;obtain⟨x,h1,h2⟩:=yc l h;exact⟨x,gn _ h1,h2⟩
def Cj{t:Int}{gs:bS}{all:Bool}(h:(S.cT t gs all).2=false):(S.cT t gs all).1=S:=by
 unfold Cs.cT at h ⊢;split;·rfl
 ·next hl=>
  rw[bJ hl]at h;dsimp only at h ⊢;split;·next hr=>rw[bK hr]at h;cases h
  ·next hr=>
   rw[bJ hr]at h;have hr:=s9 _ (by simpa using hr);split
   ·next a=>
    rw[bK a]at h;rw[s9 _ h,hr]
   ·exact hr
def Ck{t:Int}{gs:bS}{all:Bool}(h:(S.cT t gs all).2=true):S.live t=true/\∃id,id∈jw S.bV gs/\hQ (S.held t eP.min) (S.bt.get id).1.owner=false/\(S.out id).2=true/\(S.cT t gs all).1=(S.out id).1:=by
 unfold Cs.cT at h ⊢;split;·next hl=>rw[bK hl]at h;cases h
 ·next hl=>
  rw[bJ hl]at h;refine⟨by simpa using hl,?_⟩;dsimp only at h ⊢;split
  ·next hr=>
   obtain⟨id,h1,h2,a,b⟩:=yc _ hr;rw[Ha]at h2;exact⟨id,h1,h2.1,a,b⟩
  ·next hr=>
   rw[bJ hr]at h;have hr:=s9 _ (by simpa using hr);split
   ·next c=>
    rw[bK c]at h;rw[hr]at h ⊢;obtain⟨id,h1,h2,a,b⟩:=yc _ h;exact⟨id,h1,h2,a,b⟩
   ·next c=>rw[bJ c]at h;cases h
def Inv.j2(h:Inv S){gs:bS}{id:Int}(hm:id∈jw S.bV gs):∃p,S.bt.pg id=some p/\p.place=1/\p.owner∈gs:=by
 obtain⟨e,he,a,b⟩:=yb hm;obtain⟨p,hp,h1,h2⟩:=(h.gen id e.group).1 ⟨e,he,a,rfl⟩;exact⟨p,hp,h1,by rw[h2];exact b⟩
def Inv.cT(h:Inv S)(t:Int)(gs:bS)(all:Bool):Inv (S.cT t gs all).1:=by
 cases hr:(S.cT t gs all).2 with
 |false=>rw[Cj hr];exact h
 |true=>
  obtain⟨_,id,h1,_,_,b⟩:=Ck hr;obtain⟨p,hp,a,_⟩:=h.j2 h1;rw[b];exact h.out hp a
def Inv.c6(h:Inv S)(t:Int):Inv (S.c6 t).1:=h.cT t _ _
def IU(h:Inv S){t:Int}{gs:bS}{all:Bool}(hr:(S.cT t gs all).2=true):(S.cT t gs all).1.bV.length<S.bV.length:=by
 obtain⟨_,id,h1,_,b,c⟩:=Ck hr;obtain⟨e,he,a,_⟩:=yb h1;rw[c,V2 b];exact VU ((VX h.eF).2 ⟨e,he,a⟩)
def Inv.dk{t:Int}{gs:bS}:∀(n:Nat) {S:Cs},Inv S->Inv (dk t gs n S).1
 |0,_,h=>h
 |n+1,_,h=>Inv.dk n (h.cT t gs false)
def Inv.cx{t:Int}:∀(l:bA (Int×Int)) {S:Cs},Inv S->Inv (cx t l S).1
 |[],_,h=>h
 |(_,k)::l,_,h=>Inv.cx l (Inv.dk k.toNat h)
def Inv.dL{t:Int}:∀(n:Nat) {S:Cs},Inv S->Inv (dL t n S).1
 |0,_,h=>h
 |n+1,S,h=>by
  unfold Kc.dL;dsimp only;split;·exact Inv.dL n (h.c6 t)
  ·exact h.c6 t
def Inv.shrink(h:Inv S)(t n:Int):Inv (S.shrink t n).1:=by
 unfold Cs.shrink;split;·exact h
 ·exact Inv.dL _ (Inv.cx _ h)
end Go.Kc
namespace Go.Kc
open Go Go.Kt Go.Sp
variable{S:Cs}
inductive eT:Cs->Cs->Prop
 |refl (S:Cs):eT S S
 |step {S S':Cs} {id:Int} {p:Pg} (hp:S.bt.pg id=some p) (h1:p.place=1) (ho:(S.out id).2=true) (h:eT (S.out id).1 S'):eT S S'
def eT.trans{A B C:Cs}(h:eT A B)(h':eT B C):eT A C:=by
 induction h with
 |refl=>exact h'
 |step hp h1 ho _ a=>exact .step hp h1 ho (a h')
def eT.cT(h:Inv S)(t:Int)(gs:bS)(all:Bool):eT S (S.cT t gs all).1:=by
 cases hr:(S.cT t gs all).2 with
 |false=>rw[Cj hr];exact .refl S
 |true=>
  obtain⟨_,id,h1,_,b,c⟩:=Ck hr;obtain⟨p,hp,a,_⟩:=h.j2 h1;rw[c];exact .step hp a b (.refl _)
def eT.inv{S':Cs}(h:eT S S')(a:Inv S):Inv S':=by
 induction h with
 |refl=>exact a
 |step hp h1 ho _ b=>exact b (a.out hp h1)
structure Kept(S S':Cs):Prop where
 tree:S'.tree=S.tree
 guards:S'.guards=S.guards
 bU:S'.files.bU=S.files.bU
 next:S'.bt.next=S.bt.next
 cb:S'.fr.cb.length=S.fr.cb.length/\S'.sl.cb.length=S.sl.cb.length
 bL:∀id p,S.bt.pg id=some p->∃q,S'.bt.pg id=some q/\q.kf=p.kf/\q.ki=p.ki/\q.owner=p.owner/\q.refs=p.refs/\(p.place≠1->q=p)
 none_:∀id,S.bt.pg id=none->S'.bt.pg id=none
 lim:∀g,hy S'.fr.used g=hy S.fr.used g/\hy S'.sl.used g=hy S.sl.used g
def Kept.refl(S:Cs):Kept S S:=⟨rfl,rfl,rfl,rfl,⟨rfl,rfl⟩,λ_ p h=>⟨p,h,rfl,rfl,rfl,rfl,λ_=>rfl⟩,λ_ h=>h,λ_=>⟨rfl,rfl⟩⟩
def Kept.trans{A B C:Cs}(h:Kept A B)(h':Kept B C):Kept A C:=by
 refine⟨h'.tree.trans h.tree,h'.guards.trans h.guards,h'.bU.trans h.bU,h'.next.trans h.next,⟨h'.cb.1.trans h.cb.1,h'.cb.2.trans h.cb.2⟩,λid p hp=>?_,λid hn=>h'.none_ id (h.none_ id hn),λg=>⟨(h'.lim g).1.trans (h.lim g).1,(h'.lim g).2.trans (h.lim g).2⟩⟩;obtain⟨q,d,b,c,a3,a4,a5⟩:=h.bL id p hp;obtain⟨r,hr,b1,b2,b3,b4,b5⟩:=h'.bL id q d;refine⟨r,hr,b1.trans b,b2.trans c,b3.trans a3,b4.trans a4,λa=>?_⟩;have e:=a5 a;rw[b5 (by rw[e];exact a),e]
def IV{C:bA eZ}(b:C.length=64)(l:bS)(n g:Int):hy (gB C l n).1 g=hy C g:=by
 cases hr:jt l n with
 |false=>unfold gB;rw[hr];rfl
 |true=>
  by_cases hb:∃x∈l,c0 C x<n;·rw[IP hr hb]
  ·rw[s7 hr (λx hx=>Int.not_lt.1 (λa=>hb ⟨x,hx,a⟩))];have:=nd.1 hr;exact vk b this.1 this.2.1
def V3{C:bA eZ}(b:C.length=64)(l:bS)(n g:Int):hy (ds C l n).1 g=hy C g:=by
 cases hr:jt l n with
 |false=>unfold ds;rw[hr];rfl
 |true=>
  by_cases a:(ds C l n).2.2=0
  ·rw[(vl a).2.1];have:=nd.1 hr;exact vk b this.1 this.2.1
  ·obtain⟨x,_,he,_⟩:=vm hr a;rw[he]
def rS(T:TS)(id:Int)(d:Bool):(T.mark id d).1.next=T.next/\(T.mark id d).1.files=T.files/\(T.mark id d).1.c5=T.c5/\∀x,(T.mark id d).1.pg x=(T.pg x).map λp=>if x=id then {p with fl:=d} else p:=by
 unfold TS.mark;cases hp:T.pg id with
 |none=>
  refine⟨rfl,rfl,rfl,λx=>?_⟩;by_cases e:x=id;·subst e;simp[hp]
  ·cases T.pg x<;>simp[e]
 |some p=>
  refine⟨rfl,rfl,rfl,λx=>?_⟩;show cR T.pg id (some _) x=_;by_cases e:x=id;·subst e;rw[kn,hp];simp
  ·rw[dm _ _ e];cases T.pg x<;>simp[e]
def IW{id:Int}{h:Pg}(f:S.bt.pg id=some h)(h1:h.place=1)(p:Pg):Kept S (S.clean id p):=by
 obtain⟨i,c,d,k,l,m,j⟩:=ya (S:=S) id p;refine⟨i,j,?_,?_,⟨by rw[c],by rw[d]⟩,λx q a=>?_,λx hx=>?_,λg=>by rw[c,d];exact⟨rfl,rfl⟩⟩
 ·unfold Cs.clean;split
  ·show(nN _ _ _).1.bU=_;unfold nN;split;·rfl
   ·split<;>rfl
  ·rfl
 ·unfold Cs.clean;split;·exact(rS _ _ _).1
  ·rfl
 ·unfold Cs.clean;split
  ·show ∃r,(S.bt.mark id false).1.pg x=some r/\_;rw[(rS _ _ _).2.2.2,a];refine⟨_,rfl,?_,?_,?_,?_,λb=>?_⟩;·split<;>rfl
   ·split<;>rfl
   ·split<;>rfl
   ·split<;>rfl
   ·refine bJ (λe=>?_);subst e;rw[f]at a;rw[<- cV a]at b;exact b h1
  ·exact⟨q,a,rfl,rfl,rfl,rfl,λ_=>rfl⟩
 ·unfold Cs.clean;split
  ·show(S.bt.mark id false).1.pg x=none;rw[(rS _ _ _).2.2.2,hx];rfl
  ·exact hx
def Kept.l9{T:TS}{id:Int}{p:Pg}{pl a:Int}(hp:T.pg id=some p)(h1:p.place=1):(∀x q,T.pg x=some q->∃r,(T.ed id p pl a).pg x=some r/\r.kf=q.kf/\r.ki=q.ki/\r.owner=q.owner/\r.refs=q.refs/\(q.place≠1->r=q))/\∀x,T.pg x=none->(T.ed id p pl a).pg x=none:=by
 refine⟨λx q b=>?_,λx hx=>?_⟩
 ·rw[jH];by_cases e:x=id
  ·subst e;rw[hp]at b;have:=cV b;subst this;exact⟨_,bK rfl,rfl,rfl,rfl,rfl,λc=>absurd h1 c⟩
  ·exact⟨q,by rw[bJ e];exact b,rfl,rfl,rfl,rfl,λ_=>rfl⟩
 ·rw[jH];by_cases e:x=id;·subst e;rw[hp]at hx;cases hx
  ·rw[bJ e];exact hx
def V4(h:Inv S){id:Int}{p:Pg}(hp:S.bt.pg id=some p)(h1:p.place=1):Kept S (S.out id).1:=by
 cases ho:(S.out id).2 with
 |false=>rw[s8 ho];exact .refl S
 |true=>
  unfold Cs.out at ho ⊢;rw[h.bL hp]at ho ⊢;dsimp only at ho ⊢;by_cases hk:0<=p.kf
  ·rw[bK hk];dsimp only;refine(IW hp h1 p).trans ?_;obtain⟨q,d,f,j,n,o,r,s⟩:=Ci id p p hp;have e:=h.clean id p;rw[e.nT d];have b:=Kept.l9 (pl:=0) (a:=0) d (by rw[f,h1]);refine⟨rfl,rfl,rfl,rfl,⟨?_,rfl⟩,b.1,b.2,λg=>⟨?_,rfl⟩⟩;·exact B3 _ _
   ·exact IV e.fr.used.len _ _ _
  ·rw[bJ hk]at ho ⊢;split at ho
   ·next hw=>
    rw[bK hw];dsimp only;unfold Cs.fF at hw ⊢;split at hw;·cases hw
    next i=>
    rw[bJ i];dsimp only at hw ⊢;split at hw;·cases hw
    next hf=>
    rw[bJ hf];dsimp only;obtain⟨a,l,_,he⟩:=Ce (by simpa using hf);rw[he];dsimp only;have k:∀q c,S.bt.pg c=some q->q.place=2->q.at_=(a:Int)->(2:Int)≠0->c=id:=by
     intro q c d f j _;have:=(h.sl.taken a).2 ⟨c,q,d,f,j⟩;rw[l]at this;cases this
    rw[h.cI.put_eq hp ⟨bN,bN,bu,λm=>absurd m bN⟩ k];have b:=Kept.l9 (pl:=2) (a:=a) hp h1;refine⟨rfl,rfl,rfl,rfl,⟨B3 _ _,eh⟩,b.1,b.2,λg=>⟨IV h.fr.used.len _ _ _,V3 h.sl.used.len _ _ _⟩⟩
   ·cases ho
def eT.kept{S':Cs}(h:eT S S')(a:Inv S):Kept S S':=by
 induction h with
 |refl S=>exact .refl S
 |step hp h1 ho _ b=>exact(V4 a hp h1).trans (b (a.out hp h1))
def IX{C:bA eZ}(a:C.length=64){l:bS}(hl:∀g∈l,0<=g/\g<64)(hn:l.Nodup)(n:Int):dP (dP C l n) l (-n)=C:=by
 apply gJ;intro i;rcases hE i 64 with d|d
 ·have h1:(dP (dP C l n) l (-n)).length=64:=by rw[nS,nS];exact a
  have b:gg (i:Int)=true:=j1.2 ⟨bu,bu⟩;have:=rN (-n) l (C:=dP C l n) (h:=(i:Int)) (by rw[nS];exact a) hl hn b;rw[rN n l a hl hn b]at this;rw[dt]at this;rw[du,du];simp only[dC]at this;rw[du,du]at this;simp only[mY]at this;rw[this];split
  ·next hm=>
   congr 1;generalize C[i]=c;cases c;simp only[eZ.mk.injEq,and_true];omega
  ·rfl
 ·rw[gI (by rw[nS,nS];omega),gI bu]
structure nU(S S0:Cs)(g:Int)(a:Nat)(r:Cs×Int×Int×Int):Prop where
 outs:eT S S0
 free:S0.fr.cb[a]?=some false
 least:∀j,j<a->S0.fr.cb[j]?=some true
 lim:∀x∈dx S.tree g,c0 S0.fr.used x+1<=hy S0.fr.used x
 eq:r=({S0 with fr:={S0.fr with cb:=S0.fr.cb.set a true,used:=dP S0.fr.used (dx S.tree g) 1}},(a:Int), -1,0)
structure vp(S S0:Cs)(g t:Int)(r:Cs×Int×Int×Int):Prop where
 outs:eT S S0
 no:(S0.c6 t).2=false
 Ip:(t=0/\∀b∈S0.fr.cb,b=true)\/(t∈dx S.tree g/\hy S0.fr.used t<c0 S0.fr.used t+1)
 eq:r=(S0, -1,t,12)
def ga{g:Int}:∀(n:Nat) {S:Cs},Inv S->S.live g=true->S.bV.length<n->(∃S0 a,nU S S0 g a (take g n S))\/∃S0 t,vp S S0 g t (take g n S):=by
 intro n;induction n with
 |zero=>intro S _ _ h;omega
 |succ n r=>
  intro S h hl hn;have i:=rO h.wf hl;have hr:=vn h.wf hl (n:=1) ⟨bN,bN⟩;have full:∀t:Int,((t=0/\∀b∈S.fr.cb,b=true)\/(t∈dx S.tree g/\hy S.fr.used t<c0 S.fr.used t+1))->
    (∃S0 a,nU S S0 g a (if(S.c6 t).2 then take g n (S.c6 t).1 else((S.c6 t).1, -1,t,12)))\/∃S0 j,vp S S0 g j (if(S.c6 t).2 then take g n (S.c6 t).1 else((S.c6 t).1, -1,t,12)):=by
   intro t q;cases he:(S.c6 t).2 with
   |false=>
    refine .inr ⟨S,t,.refl S,he,q,?_⟩;have:(S.c6 t).1=S:=Cj he;rw[this];rfl
   |true=>
    have p:=h.c6 t;have ho:eT S (S.c6 t).1:=eT.cT h t _ _;have hk:=ho.kept h;have d:=IU h he;have l:(S.c6 t).1.live g=true:=by unfold Cs.live;rw[hk.tree];exact hl
    rcases r p l (by have:(S.c6 t).1.bV.length<S.bV.length:=d;omega)with⟨S0,a,k⟩|⟨S0,j,k⟩
    ·refine .inl ⟨S0,a,ho.trans k.outs,k.free,k.least,?_,?_⟩;·have:=k.lim;rw[hk.tree]at this;exact this
     ·have:=k.eq;rw[hk.tree]at this;simpa using this
    ·refine .inr ⟨S0,j,ho.trans k.outs,k.no,?_,by simpa using k.eq⟩;have:=k.Ip;rw[hk.tree]at this;exact this
  unfold take;dsimp only;by_cases e:(ds S.fr.used (S.chain g) 1).2.2=0
  ·rw[bK e];obtain⟨_,he,hle⟩:=vl e;by_cases hp:(gf S.fr.cb).2.2=0
   ·rw[bK hp];obtain⟨a,o,c,m⟩:=Ce hp;refine .inl ⟨S,a,.refl S,o,c,λx hx=>hle x hx bN,?_⟩;rw[he,m];rfl
   ·rw[bJ hp];have f:(gB (ds S.fr.used (S.chain g) 1).1 (S.chain g) 1).1=S.fr.used:=by
     rw[he];show(gB (dP S.fr.used (dx S.tree g) 1) (dx S.tree g) 1).1=_;rw[s7 hr (λx hx=>?_)];·exact IX h.fr.used.len i.1 i.2.1 1
     ·rw[pZ h.fr.used.len i.1 i.2.1,bK hx];have:=(h.fr.used.of x).1.1;unfold c0;omega
    rw[f];exact full 0 (.inl ⟨rfl,(Cf hp).1⟩)
  ·rw[bJ e];obtain⟨x,hx,he,_,d⟩:=vm hr e;rw[show ds S.fr.used (S.chain g) 1=(S.fr.used,x,22)from he];exact full x (.inr ⟨hx,d⟩)
def Cs.ga(h:Inv S){g:Int}(hl:S.live g=true):(∃S0 a,nU S S0 g a (S.take g))\/∃S0 t,vp S S0 g t (S.take g):=Kc.ga _ h hl bu
def iz.more{T T':TS}{tree:bA G}{s:e9}{pl:Int}(l:hJ T)(h:iz T tree s pl)(k:pl≠0)(hn:T'.next=T.next+1)(c:∀x,x≠T.next->T'.pg x=T.pg x){p:Pg}(hp:T'.pg T.next=some p)(m:p.place=0):iz T' tree s pl:=by
 have j:T.pg T.next=none:=by
  cases b:T.pg T.next with
  |none=>rfl
  |some q=>have:=l.ids _ _ b;omega
 have key:∀is:Pg->Bool,jx T' pl is=jx T pl is:=by
  intro is;unfold jx;have e:T'.next.toNat=T.next.toNat+1:=by have:=l.next;omega
  rw[e,rM];have f:((T.next.toNat:Nat):Int)=T.next:=by have:=l.next;omega
  have:nf T' pl is T.next.toNat=false:=by unfold nf;rw[f,hp];simp[m,l3 k]
  rw[this];show hZ _ _+0=_;rw[l2];exact Cd (λi r=>by unfold nf;rw[c (i:Int) bu])
 refine⟨h.eI,h.len,h.used,λa=>?_,λg o n=>by rw[h.use g o n,key],by rw[h.all,key]⟩;rw[h.taken a];constructor
 ·rintro⟨x,q,b,d,f⟩;have hx:x≠T.next:=λe=>by rw[e,j]at b;cases b
  exact⟨x,q,by rw[c x hx];exact b,d,f⟩
 ·rintro⟨x,q,b,d,f⟩;by_cases hx:x=T.next
  ·subst hx;rw[hp]at b;rw[<- cV b,m]at d;exact absurd d.symm k
  ·rw[c x hx]at b;exact⟨x,q,b,d,f⟩
def hj(T:TS)(kf ki:Int):Int×Int:=if kf<0 then(-1,T.next)else(kf,ki)
def IY(T:TS){kf ki o:Int}(hn:0<=T.next/\T.next<16777216)(b:kf<0\/T.of (kf,ki)<0):
  T.make kf ki o=(⟨cR T.pg T.next (some ⟨(hj T kf ki).1,(hj T kf ki).2,0,0,o,0,0,false,false⟩),if kf<0 then T.files else cR T.files (kf,ki) (some T.next),T.c5,T.next+1⟩,T.next,0):=by
 have hw:i64.wrap (T.next+1)=T.next+1:=cX bu bu;unfold TS.make hj;by_cases a:kf<0
 ·rw[bK a,bK a,bK a];unfold TS.iT;rw[hw]
 ·rw[bJ a,bJ a,bJ a,cK];unfold TS.iT;dsimp only;rw[hw]
def Inv0.make(h:Inv0 S)(hn:S.bt.next<16777216){kf ki o:Int}(hl:S.live o=true)(v:kf<0\/(S.bt.of (kf,ki)<0/\eo S.files (kf,ki)=true)):Inv0 {S with bt:=(S.bt.make kf ki o).1} :=by
 rw[IY _ ⟨h.cI.next,hn⟩ (v.imp_right And.left)];dsimp only;generalize s:(⟨cR S.bt.pg S.bt.next (some ⟨(hj S.bt kf ki).1,(hj S.bt kf ki).2,0,0,o,0,0,false,false⟩),if kf<0 then S.bt.files else cR S.bt.files (kf,ki) (some S.bt.next),S.bt.c5,S.bt.next+1⟩:TS)=T';have d:∀x,T'.pg x=if x=S.bt.next then some ⟨(hj S.bt kf ki).1,(hj S.bt kf ki).2,0,0,o,0,0,false,false⟩else S.bt.pg x:=by subst s;exact λx=>rfl
 have z:T'.c5=S.bt.c5:=by subst s;rfl
 have t:T'.next=S.bt.next+1:=by subst s;rfl
 have w:T'.files=if kf<0 then S.bt.files else cR S.bt.files (kf,ki) (some S.bt.next):=by subst s;rfl
 clear s;have k:S.bt.pg S.bt.next=none:=by
  cases b:S.bt.pg S.bt.next with
  |none=>rfl
  |some q=>have:=h.cI.ids _ _ b;omega
 have j:∀x,x≠S.bt.next->T'.pg x=S.bt.pg x:=λx hx=>by rw[d,bJ hx]
 have u:T'.pg S.bt.next=some ⟨(hj S.bt kf ki).1,(hj S.bt kf ki).2,0,0,o,0,0,false,false⟩:=by rw[d,bK rfl]
 refine {h with cI:=⟨by rw[t];have:=h.cI.next;omega,λx q b=>?_,λpl a x=>?_,λi m x=>?_,λx q b=>?_⟩,own:=λx q b=>?_,fr:=h.fr.more h.cI bN t j u rfl,sl:=h.sl.more h.cI bN t j u rfl,gen:=λx g=>?_,kN:=λx q b=>?_,ids:=by show T'.next<=_;rw[t];omega}
 ·rw[t];rw[d]at b;split at b;·next e=>subst e;have:=h.cI.next;omega
  ·have:=h.cI.ids _ _ b;omega
 ·rw[z,h.cI.spot];constructor
  ·rintro⟨q,b,e⟩;exact⟨q,by rw[j x (λe=>by rw[e,k]at b;cases b)];exact b,e⟩
  ·rintro⟨q,b,c,f,r⟩;rw[d]at b;split at b
   ·rw[<- cV b]at c;exact absurd c.symm r
   ·exact⟨q,b,c,f,r⟩
 ·rw[w];by_cases l:kf<0
  ·rw[bK l,h.cI.file];constructor
   ·rintro⟨q,b,e⟩;exact⟨q,by rw[j x (λe=>by rw[e,k]at b;cases b)];exact b,e⟩
   ·rintro⟨q,b,c,f,r⟩;rw[d]at b;split at b
    ·rw[<- cV b]at c;have c:(hj S.bt kf ki).1=i:=c;unfold hj at c;rw[bK l]at c;have c:(-1:Int)=i:=c;omega
    ·exact⟨q,b,c,f,r⟩
  ·rw[bJ l];have y:S.bt.files (kf,ki)=none:=by
    rcases v with n|⟨n,_⟩
    ·exact absurd n l
    ·unfold TS.of at n;cases hf:S.bt.files (kf,ki)with
     |none=>rfl
     |some x=>
      rw[hf]at n;obtain⟨q,b,_⟩:=(h.cI.file kf ki x).1 hf;have:=h.cI.ids _ _ b;simp at n;omega
   unfold cR;by_cases e:(i,m)=(kf,ki)
   ·rw[bK e];have e:i=kf/\m=ki:=by simpa using e
    obtain⟨rfl,rfl⟩:=e;constructor
    ·intro hx;have:=cV hx;subst this;refine⟨_,u,?_,?_,bu⟩;·show(hj S.bt i m).1=i;unfold hj;rw[bJ l]
     ·show(hj S.bt i m).2=m;unfold hj;rw[bJ l]
    ·rintro⟨q,b,c,f,r⟩;rw[d]at b;split at b;·next e=>rw[e]
     ·have:=(h.cI.file i m x).2 ⟨q,b,c,f,r⟩;rw[y]at this;cases this
   ·rw[bJ e,h.cI.file];constructor
    ·rintro⟨q,b,e⟩;exact⟨q,by rw[j x (λe=>by rw[e,k]at b;cases b)];exact b,e⟩
    ·rintro⟨q,b,c,f,r⟩;rw[d]at b;split at b
     ·rw[<- cV b]at c f;have c:(hj S.bt kf ki).1=i:=c;have f:(hj S.bt kf ki).2=m:=f;unfold hj at c f;rw[bJ l]at c f;exact absurd (by rw[<- c,<- f]) e
     ·exact⟨q,b,c,f,r⟩
 ·rw[d]at b;split at b;·rw[<- cV b];exact⟨⟨hh _,(by show(0:Int)<=2;decide),hh _,λ_=>rfl⟩,hh _⟩
  ·exact h.cI.pl _ _ b
 ·rw[d]at b;split at b;·rw[<- cV b];exact hl
  ·exact h.own _ _ b
 ·show _↔∃p,T'.pg x=some p/\_;rw[h.gen];constructor
  ·rintro⟨q,b,e⟩;exact⟨q,by rw[j x (λe=>by rw[e,k]at b;cases b)];exact b,e⟩
  ·rintro⟨q,b,c,f⟩;rw[d]at b;split at b;·rw[<- cV b]at c;cases c
   ·exact⟨q,b,c,f⟩
 ·intro hk;rw[d]at b;split at b
  ·rw[<- cV b]at hk ⊢;have hk:0<=(hj S.bt kf ki).1:=hk;refine⟨?_,by show(0:Int)≠2;decide⟩;show eo S.files ((hj S.bt kf ki).1,(hj S.bt kf ki).2)=true;unfold hj at hk ⊢;by_cases l:kf<0;·rw[bK l]at hk;have hk:(0:Int)<= -1:=hk;omega
   ·rw[bJ l];rcases v with n|⟨_,n⟩
    ·exact absurd n l
    ·exact n
  ·exact h.kN _ _ b hk
def V5(h:Inv0 S){id:Int}(a:∀p,S.bt.pg id=some p->p.place≠1):fq S.bV id=none:=by
 rw[s0 h.eF.c1];rintro e he rfl;obtain⟨p,hp,h1,_⟩:=(h.gen e.id e.group).1 ⟨e,he,rfl,rfl⟩;exact a p hp h1
def V6{T:TS}{id o:Int}{p:Pg}(hp:T.pg id=some p):T.own id o=(T.cP id {p with owner:=o},0):=by unfold TS.own;rw[hp]
def Inv0.toFrame(h:Inv0 S){id g:Int}{p:Pg}(hp:S.bt.pg id=some p)(f:p.place=0\/(p.place=2/\p.owner=g))(hl:S.live g=true){a:Nat}(u:S.fr.cb[a]?=some false)(s:∀x∈dx S.tree g,c0 S.fr.used x+1<=hy S.fr.used x)(text:bA UInt8)(ek:Bool):
  Inv0 (Cs.place {S with fr:={S.fr with cb:=S.fr.cb.set a true,used:=dP S.fr.used (dx S.tree g) 1},sl:=if p.place=2 then S.sl.dE p.at_ (dx S.tree g)else S.sl} id a g text ek)/\
  ((S.bt.own id g).1.put id 1 a).1=(S.bt.cP id {p with owner:=g}).ed id {p with owner:=g} 1 a:=by
 have j:p.place≠1:=by rcases f with e|⟨e,_⟩<;>rw[e]<;>decide
 have m:hJ (S.bt.cP id {p with owner:=g}):=h.cI.set hp rfl rfl rfl rfl (h.cI.pl _ _ hp).2;have r:(S.bt.cP id {p with owner:=g}).pg id=some {p with owner:=g} :=kn _ _ _;have t:∀q x,S.bt.pg x=some q->q.place=1->q.at_≠(a:Int):=by
  intro q x b i k;have:=(h.fr.taken a).2 ⟨x,q,b,i,k⟩;rw[u]at this;cases this
 have n:∀q x,(S.bt.cP id {p with owner:=g}).pg x=some q->q.place=1->q.at_=(a:Int)->(1:Int)≠0->x=id:=by
  intro q x b i k _;rcases k9 b with⟨e,_⟩|⟨_,b⟩
  ·exact e
  ·exact absurd k (t q x b i)
 have heq:((S.bt.own id g).1.put id 1 a).1=(S.bt.cP id {p with owner:=g}).ed id {p with owner:=g} 1 a:=by
  rw[V6 hp,m.put_eq r ⟨bN,bN,bu,λl=>absurd l bN⟩ n]
 refine⟨?_,heq⟩;have z:=m.ed r (pl:=1) (a:=a) ⟨bN,bN,bu,λl=>absurd l bN⟩ n;have c:∀x,((S.bt.cP id {p with owner:=g}).ed id {p with owner:=g} 1 a).pg x=if x=id then some {p with owner:=g,place:=1,at_:=a} else S.bt.pg x:=by
  intro x;rw[jH];by_cases e:x=id;·rw[bK e,bK e];rfl
  ·rw[bJ e,bJ e];exact dm _ _ e
 have d:∀x,x≠id->((S.bt.cP id {p with owner:=g}).ed id {p with owner:=g} 1 a).pg x=S.bt.pg x:=λx hx=>by rw[c,bJ hx]
 have y:¬ ix id g:=by
  unfold ix;have h1:=h.cI.ids _ _ hp;have h2:=h.ids;have A:=Uu hl;have B:=h.wf.eI;omega
 have v:=V5 h (id:=id) (λq b=>by rw[hp]at b;rw[<- cV b];exact j);unfold Cs.place;rw[heq];refine⟨h.wf,h.gl,z,λx q b=>?_,?_,?_,h.eF.add id g ek,λx o=>?_,h.log,λx q b=>?_,h.rP,h.ids⟩
 ·rw[c]at b;split at b;·rw[<- cV b];exact hl
  ·exact h.own _ _ b
 ·refine h.fr.p0 (T':=(S.bt.cP id {p with owner:=g}).ed id {p with owner:=g} 1 a) h.cI h.wf hp j rfl d (q:={p with owner:=g,place:=1,at_:=a}) (by rw[c,bK rfl]) rfl hl rfl u s ?_;show(By.wr (S.fr.cb.set a true).length S.fr.dj a text).1.length=_;rw[eh];exact By.Cc h.fr.len _
 ·show iz _ _ (if p.place=2 then S.sl.dE p.at_ (dx S.tree g)else S.sl) 2;rcases f with f|⟨f,w⟩
  ·rw[bJ (by rw[f];decide)];refine h.sl.other rfl (λx=>?_);by_cases hx:x=id
   ·subst hx;refine .inr (.inl ⟨λq b=>?_,λq b=>?_⟩);·rw[hp]at b;rw[<- cV b,f];decide
    ·rw[c,bK rfl]at b;rw[<- cV b];show(1:Int)≠2;decide
   ·exact .inl (d x hx)
  ·rw[bK f,<- w];rw[<- w]at d c;refine h.sl.dE h.cI h.wf bN hp f (h.own _ _ hp) rfl d (λq b=>?_);rw[c,bK rfl]at b;rw[<- cV b];show(1:Int)≠2;decide
 ·show(∃e∈(jW S.bV id g ek).1,e.id=x/\e.group=o)↔∃q,((S.bt.cP id {p with owner:=g}).ed id {p with owner:=g} 1 a).pg x=some q/\q.place=1/\q.owner=o;rw[VW h.eF y v,h.gen,c];by_cases hx:x=id
  ·rw[bK hx];constructor
   ·rintro(⟨_,e⟩|⟨q,b,i,_⟩);·exact⟨_,rfl,rfl,e.symm⟩
    ·rw[hx,hp]at b;rw[<- cV b]at i;exact absurd i j
   ·rintro⟨q,b,i,k⟩;rw[<- cV b]at k;exact .inl ⟨hx,k.symm⟩
  ·rw[bJ hx];exact⟨λl=>l.resolve_left (λe=>hx e.1),.inr⟩
 ·rw[c]at b;split at b
  ·rw[<- cV b];exact λhk=>⟨(h.kN _ _ hp hk).1,by show(1:Int)≠2;decide⟩
  ·exact h.kN _ _ b
def Inv0.jI{S0:Cs}(h:Inv S)(ho:eT S S0){g:Int}(hl:S.live g=true):S0.live g=true:=by
 unfold Cs.live;rw[(ho.kept h).tree];exact hl
def rT(T:TS){kf ki o:Int}(hn:0<=T.next/\T.next<16777216)(a:kf<0\/T.of (kf,ki)<0):(T.make kf ki o).2=(T.next,0)/\(T.make kf ki o).1.next=T.next+1/\
  ∀x,(T.make kf ki o).1.pg x=if x=T.next then some ⟨(hj T kf ki).1,(hj T kf ki).2,0,0,o,0,0,false,false⟩else T.pg x:=by
 rw[IY T hn a];exact⟨rfl,rfl,λx=>rfl⟩
def IZ{T:TS}{id g a:Int}{p:Pg}{S:Cs}{text:bA UInt8}{ek:Bool}(he:((S.bt.own id g).1.put id 1 a).1=(S.bt.cP id {p with owner:=g}).ed id {p with owner:=g} 1 a)(x:Int):
  (S.place id a g text ek).bt.pg x=if x=id then some {p with owner:=g,place:=1,at_:=a} else S.bt.pg x:=by
 have _:=T;show(((S.bt.own id g).1.put id 1 a).1).pg x=_;rw[he,jH];by_cases e:x=id;·rw[bK e,bK e];rfl
 ·rw[bJ e,bJ e];exact dm _ _ e
def yd(h:Inv S)(hn:S.bt.next<16777216){g:Int}(hl:S.live g=true)(text:bA UInt8):
  (∃S0 a,nU S S0 g a (S.take g)/\S.di g text=(Cs.place {S0 with bt:=(S0.bt.make (-1) 0 g).1,fr:={S0.fr with cb:=S0.fr.cb.set a true,used:=dP S0.fr.used (dx S0.tree g) 1}} S0.bt.next a g text false,S.bt.next, -1,0)/\
   Inv (S.di g text).1/\(∀x,(S.di g text).1.bt.pg x=if x=S.bt.next then some ⟨-1,S.bt.next,1,a,g,0,0,false,false⟩else S0.bt.pg x))\/
  ∃S0 t,vp S S0 g t (S.take g)/\S.di g text=(S0, -1,t,12):=by
 rcases Cs.ga h hl with⟨S0,a,k⟩|⟨S0,t,k⟩
 ·have hk:=k.outs.kept h;have j:=k.outs.inv h;have d:S0.live g=true:=Inv0.jI h k.outs hl;have f:S0.bt.next<16777216:=by rw[hk.next];exact hn
  have hm:=rT S0.bt (kf:= -1) (ki:=0) (o:=g) ⟨j.cI.next,f⟩ (.inl bN);have n:=j.toInv0.make f (kf:= -1) (ki:=0) d (.inl bN);have hp:(S0.bt.make (-1) 0 g).1.pg S0.bt.next=some ⟨-1,S0.bt.next,0,0,g,0,0,false,false⟩:=by rw[hm.2.2,bK rfl];rfl
  have l:=n.toFrame (id:=S0.bt.next) (g:=g) hp (.inl rfl) d k.free (by have:=k.lim;rw[<- hk.tree]at this;exact this) text false;have b:S.di g text=(Cs.place {S0 with bt:=(S0.bt.make (-1) 0 g).1,fr:={S0.fr with cb:=S0.fr.cb.set a true,used:=dP S0.fr.used (dx S0.tree g) 1}} S0.bt.next a g text false,S.bt.next, -1,0):=by
   unfold Cs.di;rw[k.eq];dsimp only;rw[bJ bN];rw[hm.1,hk.next,hk.tree]
  have i:∀x,(S.di g text).1.bt.pg x=if x=S.bt.next then some ⟨-1,S.bt.next,1,a,g,0,0,false,false⟩else S0.bt.pg x:=by
   intro x;rw[b];have:=IZ (T:=S0.bt) (S:={S0 with bt:=(S0.bt.make (-1) 0 g).1,fr:={S0.fr with cb:=S0.fr.cb.set a true,used:=dP S0.fr.used (dx S0.tree g) 1}}) (text:=text) (ek:=false) l.2 x;refine this.trans ?_;rw[hk.next];by_cases e:x=S.bt.next;·rw[bK e,bK e]
   ·rw[bJ e,bJ e,hm.2.2,hk.next,bJ e]
  refine .inl ⟨S0,a,k,b,⟨?_,λx q c m=>?_⟩,i⟩;·rw[b];exact l.1
  ·rw[i]at c;split at c;·rw[<- cV c];show(1:Int)≠0;decide
   ·exact j.anon _ _ c m
 ·refine .inr ⟨S0,t,k,?_⟩;unfold Cs.di;rw[k.eq];dsimp only;rw[bK bN]
def Inv.di(h:Inv S)(hn:S.bt.next<16777216){g:Int}(hl:S.live g=true)(text:bA UInt8):Inv (S.di g text).1:=by
 rcases yd h hn hl text with⟨S0,a,k,he,b,_⟩|⟨S0,t,k,he⟩
 ·exact b
 ·rw[he];exact k.outs.inv h
def Inv.fresh(h:Inv S)(hn:S.bt.next<16777216)(g:Int):Inv (S.fresh g).1:=by
 unfold Cs.fresh;split;·exact h
 ·next hl=>exact h.di hn (by simpa using hl) _
def Inv.copy(h:Inv S)(hn:S.bt.next<16777216)(id g:Int):Inv (S.copy id g).1:=by
 unfold Cs.copy;dsimp only;split;·exact h
 ·next hl=>
  have hl:S.live g=true:=by
   cases a:S.live g with
   |true=>rfl
   |false=>exact absurd (.inr (.inl a)) hl
  exact h.di hn hl _
structure V7(S S0:Cs)(id:Int)(p:Pg)(o:Int)(a:Nat)(r:Cs×Int×Int):Prop where
 took:nU S S0 o a (S.take o)
 bL:S0.bt.pg id=some p
 Cl:r.2=(-1,0)
 pg:∀x,r.1.bt.pg x=if x=id then some {p with owner:=o,place:=1,at_:=a} else S0.bt.pg x
 next:r.1.bt.next=S.bt.next
 tree:r.1.tree=S.tree
 files:r.1.files=S0.files
 dj:r.1.fr.dj=(By.wr S0.fr.cb.length S0.fr.dj a (S0.text p)).1
 cb:r.1.fr.cb=S0.fr.cb.set a true
 used:r.1.fr.used=dP S0.fr.used (dx S.tree o) 1
 sl:r.1.sl=if p.place=2 then S0.sl.dE p.at_ (dx S.tree o)else S0.sl
 guards:r.1.guards=S.guards
def vq(h:Inv0 S)(j:∀x p,S.bt.pg x=some p->p.kf<0->p.place≠0){id g:Int}{p:Pg}(hp:S.bt.pg id=some p)(hl:S.live g=true)(B:¬ (p.place=0/\p.kf<0))(h1:p.place≠1):
  (∃S0 a,V7 S S0 id p (if p.place=0 then g else p.owner) a (S.bY id g)/\Inv (S.bY id g).1)\/∃S0 t,vp S S0 (if p.place=0 then g else p.owner) t (S.take (if p.place=0 then g else p.owner))/\S.bY id g=(S0,t,12):=by
 have i:Inv S:=⟨h,j⟩
 have m:S.live (if p.place=0 then g else p.owner)=true:=by
  split;·exact hl
  ·exact h.own _ _ hp
 have hb:S.bY id g=(let o:=if p.place=0 then g else p.owner
  let t:=S.take o
  if t.2.2.2≠0 then(t.1,t.2.2.1,t.2.2.2)else
  let text:=t.1.text p;let f:=if p.place=2 then {t.1 with sl:=t.1.sl.dE p.at_ (t.1.chain o)} else t.1
  let v:=mJ f.log ((f.kept id).getD 0) (f.memory o)
  (f.place id t.2.1 o text (!v), -1,0)):=by
  unfold Cs.bY;rw[h.bL hp];dsimp only;rw[bJ (by rintro(c|c|c);exact c rfl;rw[hl]at c;cases c;exact B c),bJ h1]
 dsimp only at hb;rcases Cs.ga i m with⟨S0,a,k⟩|⟨S0,t,k⟩
 ·left;have hk:=k.outs.kept i;have y:=k.outs.inv i;obtain⟨q,C,_,_,_,_,s⟩:=hk.bL id p hp;have s:=s h1;subst s;generalize ho:(if q.place=0 then g else q.owner)=o at*
  have A:S0.live o=true:=Inv0.jI i k.outs m;have d:=k.lim;rw[<- hk.tree]at d;have l:∀(P:bA Bool) (U:bA eZ),Cs.text {S0 with fr:={S0.fr with cb:=P,used:=U}} q=S0.text q:=by
   intro P U;unfold Cs.text;rw[bJ h1,bJ h1]
  have D:=(h.cI.pl _ _ hp).1;have w:q.place=0\/(q.place=2/\q.owner=o):=by
   by_cases e:q.place=0;·exact .inl e
   ·rw[bJ e]at ho;exact .inr ⟨bu,ho⟩
  have b:∃ek,S.bY id g=(Cs.place {S0 with fr:={S0.fr with cb:=S0.fr.cb.set a true,used:=dP S0.fr.used (dx S0.tree o) 1},sl:=if q.place=2 then S0.sl.dE q.at_ (dx S0.tree o)else S0.sl} id a o (S0.text q) ek, -1,0):=by
   refine⟨!mJ S0.log ((S0.kept id).getD 0) (c0 (dP S0.fr.used (dx S.tree o) 1) o),?_⟩;rw[hb,k.eq];dsimp only;rw[bJ bN,l,hk.tree];by_cases e:q.place=2
   ·simp only[bK e];rfl
   ·simp only[bJ e];rfl
  obtain⟨ek,b⟩:=b;have u:=y.toInv0.toFrame (id:=id) (g:=o) C w A k.free d (S0.text q) ek;have n:∀x,(S.bY id g).1.bt.pg x=if x=id then some {q with owner:=o,place:=1,at_:=a} else S0.bt.pg x:=by
   intro x;rw[b];exact IZ (T:=S0.bt) (S:={S0 with fr:={S0.fr with cb:=S0.fr.cb.set a true,used:=dP S0.fr.used (dx S0.tree o) 1},sl:=if q.place=2 then S0.sl.dE q.at_ (dx S0.tree o)else S0.sl}) (text:=S0.text q) (ek:=ek) u.2 x
  refine⟨S0,a,⟨k,C,by rw[b],n,?_,?_,?_,?_,?_,?_,?_,?_⟩,?_,λx r hr z=>?_⟩
  ·rw[b];show(((S0.bt.own id o).1.put id 1 a).1).next=_;rw[u.2];exact hk.next
  ·rw[b];exact hk.tree
  ·rw[b];rfl
  ·rw[b];show(By.wr (S0.fr.cb.set a true).length S0.fr.dj a (S0.text q)).1=_;rw[eh]
  ·rw[b];rfl
  ·rw[b,<- hk.tree];rfl
  ·rw[b,<- hk.tree];rfl
  ·rw[b];exact hk.guards
  ·rw[b];exact u.1
  ·rw[n]at hr;split at hr;·rw[<- cV hr];show(1:Int)≠0;decide
   ·exact y.anon _ _ hr z
 ·right;refine⟨S0,t,k,?_⟩;rw[hb,k.eq];dsimp only;rw[bK bN]
def p3(h:Inv0 S){id g:Int}(hb:S.bt.pg id=none\/S.live g=false\/∃p,S.bt.pg id=some p/\p.place=0/\p.kf<0):S.bY id g=(S, -1,2):=by
 unfold Cs.bY;dsimp only;rw[bK];rcases hb with a|a|⟨p,hp,a⟩
 ·left;unfold TS.get;rw[a];decide
 ·exact .inr (.inl a)
 ·right;right;rw[h.bL hp];exact a
def ye(h:Inv0 S){id g:Int}{p:Pg}(hp:S.bt.pg id=some p)(h1:p.place=1)(hl:S.live g=true):S.bY id g=({S with bV:=(hH S.bV id).1}, -1,0):=by
 unfold Cs.bY;rw[h.bL hp];dsimp only;rw[bJ (by rintro(a|a|a);exact a rfl;rw[hl]at a;cases a;rw[h1]at a;cases a.1),bK h1]
def Inv.bY(h:Inv S)(id g:Int):Inv (S.bY id g).1:=by
 cases hp:S.bt.pg id with
 |none=>rw[p3 h.toInv0 (.inl hp)];exact h
 |some p=>
  cases hl:S.live g with
  |false=>rw[p3 h.toInv0 (.inr (.inl hl))];exact h
  |true=>
   by_cases b:p.place=0/\p.kf<0;·rw[p3 h.toInv0 (.inr (.inr ⟨p,hp,b⟩))];exact h
   ·by_cases h1:p.place=1;·rw[ye h.toInv0 hp h1 hl];exact h.cq id
    ·rcases vq h.toInv0 h.anon hp hl b h1 with⟨S0,a,k,c⟩|⟨S0,t,k,he⟩
     ·exact c
     ·rw[he];exact k.outs.inv h
def vr{T:TS}{id:Int}{p:Pg}(hp:T.pg id=some p)(hr:p.refs<=0)(a:p.place=0):T.drop id=({T with pg:=cR T.pg id none,files:=cR T.files (p.kf,p.ki) none},0):=by
 unfold TS.drop;rw[hp];dsimp only;rw[cK]
def ng{κ α:Type}[DecidableEq κ]{f:κ->bX α}{k x:κ}{y:α}(h:cR f k none x=some y):x≠k/\f x=some y:=by
 unfold cR at h;split at h;·cases h
 ·next e=>exact⟨e,h⟩
def Inv0.ma(h:Inv0 S){id:Int}{p:Pg}(hp:S.bt.pg id=some p)(l:p.place=0):Inv0 {S with bt:={S.bt with pg:=cR S.bt.pg id none,files:=cR S.bt.files (p.kf,p.ki) none}} :=by
 have n:∀pl:Int,pl≠0->∀x,(cR S.bt.pg id none x=S.bt.pg x)\/((∀p,S.bt.pg x=some p->p.place≠pl)/\∀p,cR S.bt.pg id none x=some p->p.place≠pl)\/(∃p k,S.bt.pg x=some p/\cR S.bt.pg id none x=some k/\k.place=p.place/\k.at_=p.at_/\k.owner=p.owner):=by
  intro pl m x;by_cases hx:x=id
  ·subst hx;refine .inr (.inl ⟨λq b=>?_,λq b=>?_⟩);·rw[hp]at b;rw[<- cV b,l];exact m.symm
   ·rw[kn]at b;cases b
  ·exact .inl (dm _ _ hx)
 refine {h with cI:=⟨h.cI.next,λx q b=>h.cI.ids _ _ (ng b).2,λpl a x=>?_,λkf ki x=>?_,λx q b=>h.cI.pl _ _ (ng b).2⟩,own:=λx q b=>h.own _ _ (ng b).2,fr:=h.fr.other rfl (n 1 bN),sl:=h.sl.other rfl (n 2 bN),gen:=λx g=>?_,kN:=λx q b=>h.kN _ _ (ng b).2}
 ·show S.bt.c5 (pl,a)=some x↔∃q,cR S.bt.pg id none x=some q/\_;rw[h.cI.spot];constructor
  ·rintro⟨q,b,c,d,f⟩;have hx:x≠id:=by
    rintro rfl;rw[hp]at b;rw[<- cV b,l]at c;exact f c.symm
   exact⟨q,by rw[dm _ _ hx];exact b,c,d,f⟩
  ·rintro⟨q,b,e⟩;exact⟨q,(ng b).2,e⟩
 ·show cR S.bt.files (p.kf,p.ki) none (kf,ki)=some x↔∃q,cR S.bt.pg id none x=some q/\_;constructor
  ·intro hx;obtain⟨i,hx⟩:=ng hx;obtain⟨q,b,c,d,f⟩:=(h.cI.file kf ki x).1 hx;have j:x≠id:=by
    rintro rfl;rw[hp]at b;have:=cV b;subst this;exact i (by rw[c,d])
   exact⟨q,by rw[dm _ _ j];exact b,c,d,f⟩
  ·rintro⟨q,b,c,d,f⟩;obtain⟨j,b⟩:=ng b;have hx:=(h.cI.file kf ki x).2 ⟨q,b,c,d,f⟩;have i:(kf,ki)≠(p.kf,p.ki):=by
    intro e;have e:kf=p.kf/\ki=p.ki:=by simpa using e
    have:=(h.cI.file kf ki id).2 ⟨p,hp,e.1.symm,e.2.symm,f⟩;rw[hx]at this;exact j (cV this)
   rw[dm _ _ i];exact hx
 ·show _↔∃q,cR S.bt.pg id none x=some q/\_;rw[h.gen];constructor
  ·rintro⟨q,b,c,d⟩;have hx:x≠id:=by
    rintro rfl;rw[hp]at b;rw[<- cV b,l]at c;cases c
   exact⟨q,by rw[dm _ _ hx];exact b,c,d⟩
  ·rintro⟨q,b,e⟩;exact⟨q,(ng b).2,e⟩
def I0(h:Inv0 S){k:Int×Int}(hk:0<=S.bt.of k):∃p,S.bt.pg (S.bt.of k)=some p/\(p.kf,p.ki)=k/\0<=p.kf:=by
 unfold TS.of at hk ⊢;cases hf:S.bt.files k with
 |none=>rw[hf]at hk;exact absurd hk bN
 |some x=>
  obtain⟨kf,ki⟩:=k;obtain⟨p,hp,a,b,c⟩:=(h.cI.file kf ki x).1 hf;exact⟨p,hp,by rw[a,b],by rw[a];exact c⟩
def yf{F:FS}{k:Int×Int}(h:eo F k=true):0<=k.1:=by
 unfold eo at h;rw[dF,gD,gD]at h;unfold nL at h;split at h;·omega
 ·omega
def Inv.cH(h:Inv S)(hn:S.bt.next<16777216)(k:Int×Int)(g:Int):Inv (S.cH k g).1:=by
 unfold Cs.cH;dsimp only;split;·exact h
 ·next w=>
  have hl:S.live g=true:=by
   cases f:S.live g with
   |true=>rfl
   |false=>exact absurd (.inr f) w
  have hf:eo S.files k=true:=by
   cases f:eo S.files k with
   |true=>rfl
   |false=>exact absurd (.inl f) w
  by_cases hm:S.bt.of k<0
  ·rw[dK hm];simp only[g4];obtain⟨kf,ki⟩:=k;have j:=yf hf;have l:=rT S.bt (kf:=kf) (ki:=ki) (o:=g) ⟨h.cI.next,hn⟩ (.inr hm);rw[show(S.bt.make kf ki g).2.1=S.bt.next by rw[l.1]];have u:=h.toInv0.make hn (kf:=kf) (ki:=ki) hl (.inr ⟨hm,hf⟩);have i:hj S.bt kf ki=(kf,ki):=by unfold hj;rw[bJ (by have:0<=kf:=j;omega)]
   have hp:(S.bt.make kf ki g).1.pg S.bt.next=some ⟨kf,ki,0,0,g,0,0,false,false⟩:=by rw[l.2.2,bK rfl,i]
   have d:∀x p,(S.bt.make kf ki g).1.pg x=some p->p.kf<0->p.place≠0:=by
    intro x q c m;rw[l.2.2]at c;split at c
    ·rw[<- cV c,i]at m;have:kf<0:=m;have:0<=kf:=j;omega
    ·exact h.anon _ _ c m
   rcases vq u d (id:=S.bt.next) (g:=g) hp hl (λe=>by have h1:kf<0:=e.2;have:0<=kf:=j;omega) (by show(0:Int)≠1;decide)with⟨S0,a,b,n⟩|⟨S0,t,b,he⟩
   ·rw[b.Cl];dsimp only;rw[bK rfl];exact n
   ·rw[he];dsimp only;rw[bJ bN];have v:Inv {S with bt:=(S.bt.make kf ki g).1} :=⟨u,d⟩
    have n:=b.outs.inv v;obtain⟨q,c,_,_,_,_,s⟩:=(b.outs.kept v).bL S.bt.next _ hp;have s:=s (by show(0:Int)≠1;decide);subst s;rw[vr c (hh _) rfl];exact⟨n.toInv0.ma c rfl,λx r hr=>n.anon _ _ (ng hr).2⟩
  ·rw[dq hm];simp only[lZ,gU];have:=h.bY (S.bt.of k) g;split<;>exact this
def Inv.get(h:Inv S)(id a:Int):Inv (S.get id a).1:=by
 unfold Cs.get;dsimp only;split;·exact h
 ·dsimp only;split;·exact h.cq id
  ·exact h
def Inv.put(h:Inv S)(id a:Int)(b:UInt8):Inv (S.put id a b).1:=by
 unfold Cs.put;dsimp only;split;·exact h
 ·split
  ·have h1:Inv {S with fr:={S.fr with dj:=(By.pt S.fr.cb.length S.fr.dj (S.here id).1 a b).1}} :=
    ⟨{h.toInv0 with fr:={h.fr with len:=By.VN h.fr.len _ _}},h.anon⟩
   exact((h1.cq id).mark id true)
  ·exact h
def Cm{T:TS}{id n:Int}{p:Pg}(hp:T.pg id=some p):T.bP id n=if n< -1000\/1000<n\/i64.wrap (p.refs+n)<0 then(T,0,1)else(T.cP id {p with refs:=i64.wrap (p.refs+n)},i64.wrap (p.refs+n),0):=by
 unfold TS.bP;rw[hp]
def oz(h:Inv S)(id n:Int):(S.bt.pg id=none/\S.bP id n=(S,2))\/∃p,S.bt.pg id=some p/\
    (((n< -1000\/1000<n\/i64.wrap (p.refs+n)<0)/\S.bP id n=(S,1))\/
     (0<i64.wrap (p.refs+n)/\(-1000<=n/\n<=1000)/\S.bP id n=({S with bt:=S.bt.cP id {p with refs:=i64.wrap (p.refs+n)}},0))\/
     (i64.wrap (p.refs+n)=0/\(-1000<=n/\n<=1000)/\(S.bP id n).2=0/\Inv (S.bP id n).1/\(S.bP id n).1.bt.next=S.bt.next/\(∀x,(S.bP id n).1.bt.pg x=if x=id then none else S.bt.pg x)/\(S.bP id n).1.tree=S.tree/\(S.bP id n).1.guards=S.guards/\
       (S.bP id n).1.fr=(if p.place=1 then S.fr.dE p.at_ (dx S.tree p.owner)else S.fr)/\(S.bP id n).1.sl=(if p.place=2 then S.sl.dE p.at_ (dx S.tree p.owner)else S.sl)/\
       (S.bP id n).1.files.bU=S.files.bU/\(p.kf<0->(S.bP id n).1.files=S.files))):=by
  cases hp:S.bt.pg id with
  |none=>
    refine .inl ⟨rfl,?_⟩;unfold Cs.bP TS.bP;rw[hp];rfl
  |some p=>
    refine .inr ⟨p,rfl,?_⟩;by_cases hb:n< -1000\/1000<n\/i64.wrap (p.refs+n)<0
    · refine .inl ⟨hb,?_⟩
      unfold Cs.bP;rw[Cm hp,bK hb];rfl
    · by_cases P:0<i64.wrap (p.refs+n)
      · refine .inr (.inl ⟨P,bu,?_⟩)
        unfold Cs.bP;rw[Cm hp,bJ hb];dsimp only;rw[bK (.inr P)]
      · refine .inr (.inr ⟨bu,bu,?_⟩)
        have V:i64.wrap (p.refs+n)=0:=by omega
        have h1:Inv {S with bt:=S.bt.cP id {p with refs:=0}} :=h.cP hp rfl rfl rfl rfl (hh _) rfl;have c:(S.bt.cP id {p with refs:=0}).pg id=some {p with refs:=0} :=kn _ _ _;have i:∀x,x≠id->(S.bt.cP id {p with refs:=0}).pg x=S.bt.pg x:=λx hx=>dm _ _ hx;have Q:=(h.cI.pl _ _ hp).1;have hr:S.bP id n=(let a:Cs:={S with bt:=S.bt.cP id {p with refs:=0}}
          let N:=a.chain p.owner;let J:=if p.place=1 then
              let b:=a.clean id {p with refs:=0}
              {b with fr:=b.fr.dE p.at_ N,bV:=(jv b.bV id).1}
            else if p.place=2 then {a with sl:=a.sl.dE p.at_ N} else a
          let d:=(J.bt.put id 0 0).1.drop id
          ({J with bt:=d.1},d.2)):=by
          unfold Cs.bP;rw[Cm hp,bJ hb,V];dsimp only;rw[cK];have:=h1.bL c;dsimp only at this;rw[this]
        generalize g:({S with bt:=S.bt.cP id {p with refs:=0}} :Cs)=a at*
        have l:a.tree=S.tree:=by subst g;rfl
        have v:a.fr=S.fr:=by subst g;rfl
        have C:a.sl=S.sl:=by subst g;rfl
        have D:a.guards=S.guards:=by subst g;rfl
        have m:a.files=S.files:=by subst g;rfl
        have O:a.bt=S.bt.cP id {p with refs:=0} :=by subst g;rfl
        rw[<- O]at c i;have E:a.bt.next=S.bt.next:=by rw[O];rfl
        clear g;rw[hr];dsimp only;by_cases hf:p.place=1
        · rw[bK hf,bK hf,bJ (by rw[hf];decide)]
          obtain⟨q,R,ab,q2,ai,aj,ad,ae⟩:=Ci (S:=a) id {p with refs:=0} _ c;have k:=h1.clean id {p with refs:=0};obtain⟨L,M,Y,af,ag,ah,Z⟩:=ya (S:=a) id {p with refs:=0};have B:=IW (S:=a) c hf {p with refs:=0};have G:p.kf<0->(a.clean id {p with refs:=0}).files=a.files:=by
            intro hk;unfold Cs.clean;rw[bJ (λaa=>by have:0<=p.kf:=aa.1;omega)]
          have z:∀x,x≠id->(a.clean id {p with refs:=0}).bt.pg x=a.bt.pg x:=by
            intro x hx;unfold Cs.clean;split
            · show(a.bt.mark id false).1.pg x=_
              rw[(rS _ _ _).2.2.2];cases a.bt.pg x<;>simp[hx]
            · rfl
          generalize a.clean id {p with refs:=0} =b at*
          have F:=k.toInv0.l8 R (by rw[ab];exact hf) (lg:=b.log) k.log (K:=b.kept);have H:=k.toInv0.nT R;dsimp only;rw[H];have f:(b.bt.ed id q 0 0).pg id=some (q.to 0 0):=by rw[jH,bK rfl]
          rw[vr f (by show q.refs<=0;rw[ae];exact hh _) rfl];have o:=F.ma f rfl;have w:b.fr.dE q.at_ (dx b.tree q.owner)=S.fr.dE p.at_ (dx S.tree p.owner):=by rw[M,v,L,l,q2,ad]
          have t:b.fr.dE p.at_ (a.chain p.owner)=S.fr.dE p.at_ (dx S.tree p.owner):=by rw[M,v];unfold Cs.chain;rw[l]
          rw[w]at o;rw[t];refine⟨rfl,⟨o,λx r hr hk=>?_⟩,?_,λx=>?_,?_,?_,rfl,?_,?_,λhk=>?_⟩
          · obtain⟨hx,hr⟩:=ng hr
            rw[jH,bJ hx]at hr;exact k.anon _ _ hr hk
          · show b.bt.next=_
            rw[B.next,E]
          · show cR (b.bt.ed id q 0 0).pg id none x=_
            by_cases hx:x=id;· subst hx;rw[kn,bK rfl]
            · rw[dm _ _ hx,bJ hx,jH,bJ hx,z x hx,i x hx]
          · show b.tree=_;rw[L,l]
          · show b.guards=_;rw[Z,D]
          · show b.sl=_;rw[Y,C]
          · show b.files.bU=_;rw[B.bU,m]
          · show b.files=_;rw[G hk,m]
        · rw[bJ hf,bJ hf]
          by_cases u:p.place=2
          · rw[bK u,bK u]
            have F:=h1.toInv0.rQ c u;dsimp only;rw[h1.toInv0.nT c];have f:(a.bt.ed id {p with refs:=0} 0 0).pg id=some (Pg.to {p with refs:=0} 0 0):=by rw[jH,bK rfl]
            rw[vr f (hh _) rfl];have o:=F.ma f rfl;refine⟨rfl,⟨o,λx r hr hk=>?_⟩,E,λx=>?_,l,D,v,?_,by rw[m],λ_=>m⟩
            · obtain⟨hx,hr⟩:=ng hr
              rw[jH,bJ hx]at hr;exact h1.anon _ _ hr hk
            · show cR (a.bt.ed id _ 0 0).pg id none x=_
              by_cases hx:x=id;· subst hx;rw[kn,bK rfl]
              · rw[dm _ _ hx,bJ hx,jH,bJ hx,i x hx]
            · show a.sl.dE p.at_ (a.chain p.owner)=_
              rw[C];unfold Cs.chain;rw[l]
          · rw[bJ u,bJ u]
            have j:p.place=0:=by omega
            rw[h1.toInv0.nT c];have f:(a.bt.ed id {p with refs:=0} 0 0).pg id=some (Pg.to {p with refs:=0} 0 0):=by rw[jH,bK rfl]
            rw[vr f (hh _) rfl];have A:a.bt.ed id {p with refs:=0} 0 0=a.bt:=by
              have s:p.at_=0:=Q.2.2.2 j;have U:Pg.to {p with refs:=0} 0 0= {p with refs:=0} :=by
                show({p with refs:=0,place:=0,at_:=0} :Pg)= {p with refs:=0}
                cases p;simp only at j s;subst j s;rfl
              have I:a.bt.c5 (p.place,p.at_)=none:=by
                rw[j,s];cases T:a.bt.c5 (0,0)with
                |none=>rfl
                |some y=>
                  obtain⟨_,_,_,_,e⟩:=(h1.cI.spot 0 0 y).1 T;exact absurd rfl e
              unfold TS.ed;rw[U,bJ bN];have W:cR a.bt.pg id (some {p with refs:=0})=a.bt.pg:=by
                funext x;unfold cR;split;· next e=>rw[e,c]
                · rfl
              have X:cR a.bt.c5 (({p with refs:=0} :Pg).place,({p with refs:=0} :Pg).at_) none=a.bt.c5:=by
                funext x;unfold cR;split;· next e=>rw[e];exact I.symm
                · rfl
              rw[W,X]
            rw[A]at f ⊢;have o:=h1.toInv0.ma c j;refine⟨rfl,⟨o,λx r hr hk=>h1.anon _ _ (ng hr).2 hk⟩,E,λx=>?_,l,D,v,C,by rw[m],λ_=>m⟩;show cR a.bt.pg id none x=_;by_cases hx:x=id;· subst hx;rw[kn,bK rfl]
            · rw[dm _ _ hx,bJ hx,i x hx]
def Inv.bP(h:Inv S)(id n:Int):Inv (S.bP id n).1:=by
 rcases oz h id n with⟨_,he⟩|⟨p,hp,⟨_,he⟩|⟨b,_,he⟩|⟨_,_,_,a,_⟩⟩
 ·rw[he];exact h
 ·rw[he];exact h
 ·rw[he];exact h.cP hp rfl rfl rfl rfl (by show 0<=i64.wrap (p.refs+n);omega) rfl
 ·exact a
end Go.Kc
namespace Go.Kt
def I1{l l':bA G}:∀(g:Nat),(∀i,i<=g->((l'[i]?).map G.up)=((l[i]?).map G.up))->chain l' g=chain l g:=by
 intro g;induction g using Nat.strongRecOn with
 |_ g a=>
  intro h;rw[chain.eq_def l' g,chain.eq_def l g,h g (ec _)];split;·next b=>rw[a _ bu (λi c=>h i bu)]
  ·rfl
def I2{l:bA G}{n:Nat}:dB l n=((l[n]?).map G.live).getD false:=by
 unfold dB;rw[dK bu,dt];cases l[n]? <;>rfl
def I3{l:bA G}{g:Int}(h:g<0):dB l g=false:=by
 unfold dB;rw[dq bu];rfl
def I4{l:bA G}{x:G}{g:Int}(h:dB l g=true):dB (l++[x]) g=true:=by
 obtain⟨n,rfl,y,b,hl⟩:=jg.1 h;have a:=(c2.1 b).1;exact jg.2 ⟨n,rfl,y,by rw[eQ a];exact b,hl⟩
def V8{l:bA G}{x:G}{g:Int}(h:dB l g=true):dx (l++[x]) g=dx l g:=by
 unfold dx;rw[bK h,bK (I4 h)];obtain⟨n,rfl,y,a,hl⟩:=jg.1 h;have b:=(c2.1 a).1;rw[dt,I1 (l:=l) (l':=l++[x]) n (λi c=>by rw[eQ bu])]
def V9{l:bA G}{p:Int}(h:(gz l p).2.2=0):dB l p=true/\l.length<64/\gz l p=(l++[⟨p,true⟩],(l.length:Int),0):=by
 unfold gz at h ⊢;split at h;·cases h
 next h1=>
 rw[bJ h1];split at h;·cases h
 next h2=>
 rw[bJ h2];split at h;·cases h
 next a=>
 rw[bJ a];exact⟨by simpa using h1,bu,rfl⟩
def Wa{l:bA G}{g:Int}(h:(jh l g).2=0):∃n:Nat,g=n/\0<n/\∃x,l[n]?=some x/\x.live=true/\kD l g= []/\jh l g=(l.set n ⟨x.up,false⟩,0):=by
 unfold jh at h ⊢;split at h;·cases h
 next h1=>
 rw[bJ h1];split at h;·cases h
 next h2=>
 rw[bJ h2];split at h;·cases h
 next a=>
 rw[bJ a];obtain⟨n,rfl,x,hx,hl⟩:=jg.1 (show dB l g=true by simpa using h2);refine⟨n,rfl,bu,x,hx,hl,by simpa using a,?_⟩;rw[dt,hx];rfl
variable{l:bA G}{n:Nat}{x:G}
def I5(hx:l[n]?=some x)(g:Int):dB (l.set n ⟨x.up,false⟩) g=(dB l g&& !(g==(n:Int))):=by
 have a:=(c2.1 hx).1;rcases Int.lt_or_le g 0 with h|h;·rw[I3 h,I3 h];rfl
 ·obtain⟨m,rfl⟩:∃m:Nat,g=m:=⟨g.toNat,bu⟩
  rw[I2,I2];by_cases e:n=m
  ·subst e;rw[jm a,hx];simp
  ·rw[iM e];have:((m:Int)==(n:Int))=false:=by simp;omega
   rw[this];simp
def Wb(hx:l[n]?=some x)(g:Nat):chain (l.set n ⟨x.up,false⟩) g=chain l g:=by
 have a:=(c2.1 hx).1;refine I1 g (λi _=>?_);by_cases e:n=i;·subst e;rw[jm a,hx];rfl
 ·rw[iM e]
def I6(hx:l[n]?=some x){g:Int}(hl:dB l g=true)(a:g≠n):dx (l.set n ⟨x.up,false⟩) g=dx l g:=by
 unfold dx;rw[I5 hx,hl,bK rfl,bK (by simpa using a),Wb hx]
def Cn{g:Nat}(hl:dB l g=true):dx l g=(chain l g).map Int.ofNat:=by unfold dx;rw[bK hl,dt]
def Wc(hw:WF l)(hk:kD l n= [])(hn:dB l n=true):∀(g:Nat),dB l g=true->g≠n->n∉chain l g:=by
 intro g;induction g using Nat.strongRecOn with
 |_ g k=>
  intro hl d hm;obtain⟨a,e,y,b,h⟩:=jg.1 hl;have e:a=g:=by omega
  subst e;rcases k3 a with c|c;·subst c;rw[aig,h9]at hm;exact d hm.symm
  ·have hu:=hw.up a y b c;rw[sJ hw b c]at hm;rcases eH.1 hm with e|hm;·exact d e.symm
   ·by_cases e:y.up.toNat=n
    ·have f:=(c2.1 b).1;have:(a:Int)∈kD l n:=by
      unfold kD ou;rw[bK hn];refine fD.2 ⟨a,gp.2 ⟨gq.2 f,?_⟩,rfl⟩;rw[dF];refine⟨hl,?_⟩;show(((l[a]?).map G.up).getD (-1)==(n:Int))=true;rw[b];simp only[fC,mY,oV];omega
     rw[hk]at this;cases this
    ·obtain⟨z,i⟩:∃z,l[y.up.toNat]?=some z:=⟨_,ea (by have:=(c2.1 b).1;omega)⟩
     have j:=hw.live a y z b c h i;exact k _ bu (jg.2 ⟨_,rfl,z,i,j⟩) e hm
end Go.Kt
namespace Go.Kc
open Go Go.Kt Go.Sp
variable{S:Cs}
def iz.tree{T:TS}{tree a:bA G}{s:e9}{pl:Int}(h:iz T tree s pl)(d:∀x p,T.pg x=some p->dx a p.owner=dx tree p.owner):iz T a s pl:=by
 refine⟨h.eI,h.len,h.used,h.taken,λg c b=>?_,h.all⟩;rw[h.use g c b];congr 1;refine(vo rfl (λx=>?_)).symm;cases hp:T.pg x with
 |none=>rfl
 |some p=>unfold pB below;dsimp only;rw[d x p hp]
def Inv.ct(h:Inv S)(p:Int):Inv (S.ct p).1:=by
 unfold Cs.ct;dsimp only;split
 ·next c=>
  obtain⟨hl,d,he⟩:=V9 c;have hw:=Uy h.wf p;rw[he]at hw ⊢;dsimp only at hw ⊢;have b:∀x q,S.bt.pg x=some q->dx (S.tree++[⟨p,true⟩]) q.owner=dx S.tree q.owner:=λx q a=>V8 (h.own _ _ a);exact {h with wf:=hw,gl:=by show(S.guards++[_]).length=(S.tree++[_]).length;rw[df,df,h.gl];rfl,own:=λx q a=>I4 (h.own _ _ a),fr:=h.fr.tree b,sl:=h.sl.tree b}
 ·exact h
def Inv.pa(h:Inv S){l:bA eP}(hl:l.length=S.guards.length):Inv {S with guards:=l} :={h with gl:=by show l.length=_;rw[hl];exact h.gl}
def Inv.cJ(h:Inv S)(g what n:Int):Inv (S.cJ g what n).1:=by
 have b:∀x,Inv (S.iV g x):=λx=>h.pa (by simp);have c:∀ {T:TS} {tree:bA G} {s:e9} {pl:Int},iz T tree s pl->iz T tree {s with used:=(km s.used g n).1} pl:=by
  intro T tree s pl a;exact⟨a.eI,a.len,a.used.kM g n,a.taken,λx hx d=>by rw[<- a.use x hx d];exact VS a.used.len g n x,a.all⟩
 unfold Cs.cJ;split;·exact h
 split;·exact h
 split;·exact b _
 split;·exact b _
 split;·exact {h with fr:=c h.fr}
 split;·exact {h with sl:=c h.sl}
 split
 ·split;·exact h
  ·exact b _
 ·exact h
def I7(T:TS)(id o:Int):(T.own id o).1.next=T.next/\(T.own id o).1.files=T.files/\(T.own id o).1.c5=T.c5/\∀x,(T.own id o).1.pg x=(T.pg x).map λp=>if x=id then {p with owner:=o} else p:=by
 unfold TS.own;cases hp:T.pg id with
 |none=>
  refine⟨rfl,rfl,rfl,λx=>?_⟩;by_cases e:x=id;·subst e;simp[hp]
  ·cases T.pg x<;>simp[e]
 |some p=>
  refine⟨rfl,rfl,rfl,λx=>?_⟩;show cR T.pg id (some _) x=_;by_cases e:x=id;·subst e;rw[kn,hp];simp
  ·rw[dm _ _ e];cases T.pg x<;>simp[e]
def rU(o:Int):∀(ids:bS) (T:TS),(T.dG ids o).next=T.next/\(T.dG ids o).files=T.files/\(T.dG ids o).c5=T.c5/\∀x,(T.dG ids o).pg x=(T.pg x).map λp=>if x∈ids then {p with owner:=o} else p
 |[],T=>⟨rfl,rfl,rfl,λx=>by show T.pg x=_;cases T.pg x<;>simp⟩
 |id::ids,T=>by
  obtain⟨c,d,a3,a4⟩:=I7 T id o;obtain⟨b1,b2,b3,b4⟩:=rU o ids (T.own id o).1;refine⟨b1.trans c,b2.trans d,b3.trans a3,λx=>(b4 x).trans ?_⟩;rw[a4];cases T.pg x with
  |none=>rfl
  |some p=>
   simp only[fC,fT,eH];by_cases a:x=id;·by_cases b:x∈ids<;>simp[a]
   ·by_cases b:x∈ids<;>simp[a,b]
def Co{T:TS}(a:hJ T){g x:Int}:x∈T.eA g↔∃p,T.pg x=some p/\p.owner=g:=by
 unfold TS.eA;rw[fD];constructor
 ·rintro⟨n,hn,rfl⟩;rw[gp]at hn;obtain⟨_,hn⟩:=hn;show ∃p,T.pg (n:Int)=some p/\_;cases hp:T.pg (n:Int)with
  |none=>rw[hp]at hn;cases hn
  |some p=>rw[hp]at hn;exact⟨p,rfl,by simpa using hn⟩
 ·rintro⟨p,hp,ho⟩;have:=a.ids _ _ hp;refine⟨x.toNat,gp.2 ⟨gq.2 bu,?_⟩,by show((x.toNat:Nat):Int)=x;omega⟩;have e:((x.toNat:Nat):Int)=x:=by omega
  rw[e,hp];simpa using ho
def yg{T:TS}(a:hJ T)(g o x:Int):(T.dG (T.eA g) o).pg x=(T.pg x).map λp=>if p.owner=g then {p with owner:=o} else p:=by
 rw[(rU o _ T).2.2.2 x];cases hp:T.pg x with
 |none=>rfl
 |some p=>
  simp only[fC,fT];by_cases e:p.owner=g;·rw[bK e,bK ((Co a).2 ⟨p,hp,e⟩)]
  ·rw[bJ e,bJ (λhm=>by
    obtain⟨q,b,c⟩:=(Co a).1 hm;rw[hp]at b;exact e (by rw[cV b];exact c))]
def hJ.vt{T:TS}(f:hJ T)(g o:Int):hJ (T.dG (T.eA g) o):=by
 have h:=yg f g o;obtain⟨h1,h2,i,_⟩:=rU o (T.eA g) T;generalize T.dG (T.eA g) o=T' at*
 have hf:∀ {x q},T'.pg x=some q->∃p,T.pg x=some p/\q.place=p.place/\q.at_=p.at_/\q.kf=p.kf/\q.ki=p.ki/\q.refs=p.refs:=by
  intro x q b;rw[h]at b;cases hp:T.pg x with
  |none=>rw[hp]at b;cases b
  |some p=>
   rw[hp]at b;have:=cV b;subst this;refine⟨p,rfl,?_,?_,?_,?_,?_⟩<;>(dsimp only;split<;>rfl)
 have hb:∀ {x p},T.pg x=some p->∃q,T'.pg x=some q/\q.place=p.place/\q.at_=p.at_/\q.kf=p.kf/\q.ki=p.ki:=by
  intro x p hp;rw[h,hp];refine⟨_,rfl,?_,?_,?_,?_⟩<;>(dsimp only;split<;>rfl)
 refine⟨by rw[h1];exact f.next,λx q b=>?_,λpl a x=>?_,λkf ki x=>?_,λx q b=>?_⟩
 ·obtain⟨p,hp,_⟩:=hf b;rw[h1];exact f.ids _ _ hp
 ·rw[i,f.spot];constructor
  ·rintro⟨p,hp,c,d,e⟩;obtain⟨q,b,f1,f2,_⟩:=hb hp;exact⟨q,b,by rw[f1,c],by rw[f2,d],e⟩
  ·rintro⟨q,b,c,d,e⟩;obtain⟨p,hp,f1,f2,_⟩:=hf b;exact⟨p,hp,by rw[<- f1,c],by rw[<- f2,d],e⟩
 ·rw[h2,f.file];constructor
  ·rintro⟨p,hp,c,d,e⟩;obtain⟨q,b,_,_,f1,f2⟩:=hb hp;exact⟨q,b,by rw[f1,c],by rw[f2,d],e⟩
  ·rintro⟨q,b,c,d,e⟩;obtain⟨p,hp,_,_,f1,f2,_⟩:=hf b;exact⟨p,hp,by rw[<- f1,c],by rw[<- f2,d],e⟩
 ·obtain⟨p,hp,f1,f2,_,_,f5⟩:=hf b;have:=f.pl _ _ hp;rw[f1,f2,f5];exact this
def Wd{C:bA eZ}(b:hP C){g:Int}(c:0<=g/\g<64)(x:Int):c0 (gB C [g] (c0 C g)).1 x=if x=g then 0 else c0 C x:=by
 have ho:=(b.of g).1;have hr:jt [g] (c0 C g)=true:=nd.2 ⟨λy a=>by rw[h9]at a;subst a;exact c,by simp,ho⟩;rw[s7 hr (λy a=>by rw[h9]at a;subst a;exact hh _)];show c0 (dP C [g] (-(c0 C g))) x=_;rw[pZ b.len (λy a=>by rw[h9]at a;subst a;exact c) (by simp)];by_cases e:x=g;·subst e;simp;omega
 ·simp[e]
def iz.gone{T:TS}(I:hJ T){tree:bA G}(hw:WF tree){s:e9}{pl:Int}(h:iz T tree s pl)(j:∀x p,T.pg x=some p->dB tree p.owner=true){n:Nat}{x:G}(v:0<n)(hx:tree[n]?=some x)(hl:x.live=true)(hk:kD tree n= []):
  iz (T.dG (T.eA n) x.up) (tree.set n ⟨x.up,false⟩) {s with used:=(gB s.used [(n:Int)] (c0 s.used n)).1} pl:=by
 have K:=(c2.1 hx).1;have J:=hw.eI;have hn:dB tree n=true:=jg.2 ⟨n,rfl,x,hx,hl⟩;have hu:=hw.up n x hx v;obtain⟨z,F⟩:∃z,tree[x.up.toNat]?=some z:=⟨_,du⟩
 have H:=hw.live n x z hx v hl F;have u:((x.up.toNat:Nat):Int)=x.up:=by omega
 have t:dB tree x.up=true:=by rw[<- u];exact jg.2 ⟨_,rfl,z,F,H⟩
 have w:x.up≠(n:Int):=by omega
 have f:=yg I n x.up;have r:=(rU x.up (T.eA n) T).1;generalize T.dG (T.eA n) x.up=T' at*
 have o:dx tree n=(n:Int)::dx tree x.up:=by
  rw[Cn hn,sJ hw hx v];rw[show dx tree x.up=dx tree ((x.up.toNat:Nat):Int) by rw[u],Cn (by rw[u];exact t)];rfl
 have D:(n:Int)∉dx tree x.up:=by
  have:=(rO hw hn).2.1;rw[o,rq]at this;exact this.1
 have key:∀(y:Int) (g:Int),pB (T'.pg y) pl (below (tree.set n ⟨x.up,false⟩) g)=(pB (T.pg y) pl (below tree g)&& !(g==(n:Int))):=by
  intro y g;rw[f];cases hp:T.pg y with
  |none=>rfl
  |some p=>
   simp only[fC];unfold pB below;dsimp only;by_cases e:p.owner=(n:Int)
   ·rw[bK e];dsimp only;rw[I6 hx t w,e,o];by_cases c:g=(n:Int)
    ·subst c;have:(dx tree x.up).contains (n:Int)=false:=by simpa using D
     rw[this];simp
    ·have:(g==(n:Int))=false:=by simpa using c
     rw[List.contains_cons,this];simp
   ·rw[bJ e,I6 hx (j _ _ hp) e];by_cases c:g=(n:Int)
    ·subst c;have:(dx tree p.owner).contains (n:Int)=false:=by
      have d:=j _ _ hp;obtain⟨m,hm,_⟩:=jg.1 d;rw[hm]at d ⊢;have:=Wc hw hk hn m d (λb=>e (by rw[hm,b]));rw[Cn d];simp only[List.contains_eq_mem,G5,fD,not_exists,not_and];intro y E b;have b:(y:Int)=(n:Int):=b;rw[show y=n by omega]at E;exact this E
     rw[this];simp
    ·have:(g==(n:Int))=false:=by simpa using c
     rw[this];simp
 have A:∀(y:Int),pB (T'.pg y) pl (λ_=>true)=pB (T.pg y) pl (λ_=>true):=by
  intro y;rw[f];cases hp:T.pg y with
  |none=>rfl
  |some p=>simp only[fC];unfold pB;dsimp only;split<;>rfl
 refine⟨h.eI,h.len,h.used.dE _ _,λa=>?_,λg c B=>?_,by rw[h.all];exact(vo r A).symm⟩
 ·rw[h.taken a];constructor
  ·rintro⟨y,p,hp,l,b⟩;refine⟨y,(if p.owner=(n:Int)then {p with owner:=x.up} else p),by rw[f,hp];rfl,?_,?_⟩
   ·split;·exact l
    ·exact l
   ·split;·exact b
    ·exact b
  ·rintro⟨y,q,k,l,b⟩;rw[f]at k;cases hp:T.pg y with
   |none=>rw[hp]at k;cases k
   |some p=>
    rw[hp]at k;have:=cV k;subst this;refine⟨y,p,hp,?_,?_⟩;·rw[<- l];dsimp only;split<;>rfl
    ·rw[<- b];dsimp only;split<;>rfl
 ·show c0 (gB s.used [(n:Int)] (c0 s.used n)).1 g=_;rw[Wd h.used ⟨bu,bu⟩];by_cases e:g=(n:Int)
  ·rw[bK e];have:jx T' pl (below (tree.set n ⟨x.up,false⟩) g)=0:=by
    unfold jx;refine VQ.2 (λi L=>?_);have:=key (i:Int) g;rw[e]at this ⊢;simp only[uL,Bool.not_true,sH]at this;exact this
   rw[this];rfl
  ·rw[bJ e,h.use g c B];have C:(g==(n:Int))=false:=by simpa using e
   congr 1;refine(vo r (λy=>?_)).symm;rw[key,C];simp
def We{R:bA dI}{f t:Int}(d:0<=t/\t<=16777216){x o:Int}:(∃e∈(m9 R f t).1,e.id=x/\e.group=o)↔∃e∈R,e.id=x/\(if e.group=f then t else e.group)=o:=by
 unfold m9;rw[cK];have c:∀e:dI,(jX f (λ_ a=>(t,a)) e).group=if e.group=f then t else e.group:=λe=>by unfold jX;split<;>rfl
 constructor
 ·rintro⟨e,he,rfl,rfl⟩;obtain⟨y,b,rfl⟩:=fD.1 he;exact⟨y,b,(s3 _ _ y).symm,(c y).symm⟩
 ·rintro⟨y,b,rfl,rfl⟩;exact⟨_,fD.2 ⟨y,b,rfl⟩,s3 _ _ y,c y⟩
def Inv.remove(h:Inv S)(g:Int):Inv (S.remove g).1:=by
 unfold Cs.remove;dsimp only;split
 ·next t=>
  obtain⟨n,rfl,hn,x,hx,b,hk,he⟩:=Wa t;have hw:=Uz h.wf (n:Int);rw[he]at hw ⊢;dsimp only at hw ⊢;have w:=(c2.1 hx).1;have u:=h.wf.eI;have j:dB S.tree n=true:=jg.2 ⟨n,rfl,x,hx,b⟩;have l:pQ S.tree n=x.up:=by unfold pQ;rw[bK j,dt,hx];rfl
  rw[l];have hu:=h.wf.up n x hx hn;obtain⟨z,m⟩:∃z,S.tree[x.up.toNat]?=some z:=⟨_,du⟩
  have r:=h.wf.live n x z hx hn b m;have s:((x.up.toNat:Nat):Int)=x.up:=by omega
  have k:dB S.tree x.up=true:=by rw[<- s];exact jg.2 ⟨_,rfl,z,m,r⟩
  have d:=yg h.cI n x.up;have hf:∀ {y q},(S.bt.dG (S.bt.eA n) x.up).pg y=some q->∃p,S.bt.pg y=some p/\q=if p.owner=(n:Int)then {p with owner:=x.up} else p:=by
   intro y q a;rw[d]at a;cases hp:S.bt.pg y with
   |none=>rw[hp]at a;cases a
   |some p=>rw[hp]at a;exact⟨p,rfl,(cV a).symm⟩
  refine⟨⟨hw,by show S.guards.length=(S.tree.set n _).length;rw[eh];exact h.gl,h.cI.vt n x.up,λy q a=>?_,h.fr.gone h.cI h.wf h.own hn hx b hk,h.sl.gone h.cI h.wf h.own hn hx b hk,h.eF.move _ _,λy o=>?_,h.log,λy q a=>?_,h.rP,?_⟩,λy q a hk=>?_⟩
  ·obtain⟨p,hp,rfl⟩:=hf a;show dB (S.tree.set n ⟨x.up,false⟩) _=true;rw[I5 hx];split
   ·dsimp only;rw[k];simp;omega
   ·next e=>
    rw[show dB S.tree p.owner=true from h.own _ _ hp];simpa using e
  ·show(∃e∈(m9 S.bV n x.up).1,_)↔∃q,(S.bt.dG (S.bt.eA n) x.up).pg y=some q/\_;rw[We ⟨hu.1,bu⟩];constructor
   ·rintro⟨e,he,f,i⟩;obtain⟨p,hp,c,p2⟩:=(h.gen y e.group).1 ⟨e,he,f,rfl⟩;refine⟨_,by rw[d,hp];rfl,?_,?_⟩
    ·dsimp only;split;·exact c
     ·exact c
    ·dsimp only;rw[p2,<- i];split;·rfl
     ·exact p2
   ·rintro⟨q,a,v,q2⟩;obtain⟨p,hp,rfl⟩:=hf a;have c:p.place=1:=by rw[<- v];split<;>rfl
    obtain⟨e,he,f,i⟩:=(h.gen y p.owner).2 ⟨p,hp,c,rfl⟩;refine⟨e,he,f,?_⟩;rw[i,<- q2];split<;>rfl
  ·obtain⟨p,hp,rfl⟩:=hf a;have:=h.kN _ _ hp;split;·exact this
   ·exact this
  ·show(S.bt.dG (S.bt.eA n) x.up).next<=_;rw[(rU x.up _ _).1];exact h.ids
  ·obtain⟨p,hp,rfl⟩:=hf a;have:=h.anon _ _ hp;revert hk;split;·exact this
   ·exact this
 ·exact h
end Go.Kc
namespace Go.Kc
open Go Go.Kt Go.Sp
structure Act where
 k:Int
 a:Int
 b:Int
 c:Int
 kf:Int
 ki:Int
def Cs.act(S:Cs)(x:Act):Cs×Int×Int×Int:=
 let k:=x.k.tmod 12
 if k=0 then let r:=S.ct x.a;(r.1,r.2.1,0,r.2.2)
 else if k=1 then let r:=S.remove x.a;(r.1,0,0,r.2)
 else if k=2 then let r:=S.cJ x.a x.b x.c;(r.1,0,0,r.2)
 else if k=3 then S.fresh x.a
 else if k=4 then S.cH (x.kf,x.ki) x.a
 else if k=5 then let r:=S.bY x.b x.a;(r.1,r.2.1,0,r.2.2)
 else if k=6 then S.copy x.b x.a
 else if k=7 then let r:=S.put x.b x.a (mI x.c);(r.1,0,0,r.2)
 else if k=8 then let r:=S.get x.b x.a;(r.1,r.2.1,0,r.2.2)
 else if k=9 then let r:=S.bP x.b x.c;(r.1,0,0,r.2)
 else if k=10 then let r:=S.dD x.a;(r.1,r.2,0,0)
 else let r:=S.shrink x.a x.c;(r.1,r.2,0,0)
def iW{α:Type}{P:α->Prop}{c:Prop}[Decidable c]{a b:α}(h1:c->P a)(h2:¬ c->P b):P (if c then a else b):=by
 by_cases h:c;·rw[bK h];exact h1 h
 ·rw[bJ h];exact h2 h
def yh{P:Cs×Int×Int×Int->Prop}(S:Cs)(x:Act)(c:x.k.tmod 12=0->P ((S.ct x.a).1,(S.ct x.a).2.1,0,(S.ct x.a).2.2))(h1:x.k.tmod 12=1->P ((S.remove x.a).1,0,0,(S.remove x.a).2))(h2:x.k.tmod 12=2->P ((S.cJ x.a x.b x.c).1,0,0,(S.cJ x.a x.b x.c).2))(d:x.k.tmod 12=3->P (S.fresh x.a))(e:x.k.tmod 12=4->P (S.cH (x.kf,x.ki) x.a))(f:x.k.tmod 12=5->P ((S.bY x.b x.a).1,(S.bY x.b x.a).2.1,0,(S.bY x.b x.a).2.2))(g:x.k.tmod 12=6->P (S.copy x.b x.a))(h:x.k.tmod 12=7->P ((S.put x.b x.a (mI x.c)).1,0,0,(S.put x.b x.a (mI x.c)).2))(i:x.k.tmod 12=8->P ((S.get x.b x.a).1,(S.get x.b x.a).2.1,0,(S.get x.b x.a).2.2))(j:x.k.tmod 12=9->P ((S.bP x.b x.c).1,0,0,(S.bP x.b x.c).2))(a:x.k.tmod 12=10->P ((S.dD x.a).1,(S.dD x.a).2,0,0))(b:(¬ x.k.tmod 12=0/\¬ x.k.tmod 12=1/\¬ x.k.tmod 12=2/\¬ x.k.tmod 12=3/\¬ x.k.tmod 12=4/\¬ x.k.tmod 12=5/\¬ x.k.tmod 12=6/\¬ x.k.tmod 12=7/\¬ x.k.tmod 12=8/\¬ x.k.tmod 12=9/\¬ x.k.tmod 12=10)->P ((S.shrink x.a x.c).1,(S.shrink x.a x.c).2,0,0)):P (S.act x):=by
 unfold Cs.act;exact iW c (λk=>iW h1 (λl=>iW h2 (λm=>iW d (λn=>iW e (λo=>iW f (λn5=>iW g (λn6=>iW h (λn7=>iW i (λn8=>iW j (λn9=>iW a (λn10=>b ⟨k,l,m,n,o,n5,n6,n7,n8,n9,n10⟩)))))))))))
variable{S:Cs}
def Inv.act(h:Inv S)(hn:S.bt.next<16777216)(x:Act):Inv (S.act x).1:=by
 exact yh (P:=λr=>Inv r.1) S x (λ_=>h.ct _) (λ_=>h.remove _) (λ_=>h.cJ _ _ _) (λ_=>h.fresh hn _) (λ_=>h.cH hn _ _) (λ_=>h.bY _ _) (λ_=>h.copy hn _ _)
  (λ_=>h.put _ _ _) (λ_=>h.get _ _) (λ_=>h.bP _ _) (λ_=>h.dD _) (λ_=>h.shrink _ _)
def I8{t:Int}:∀(l:bA (Int×Int)) {S:Cs},Inv S->eT S (cx t l S).1
 |[],S,_=>.refl S
 |(g,k)::l,S,h=>by
  have e:∀(n:Nat) {S:Cs},Inv S->eT S (dk t [g] n S).1:=by
   intro n;induction n with
   |zero=>intro S _;exact .refl S
   |succ n a=>intro S h;exact(eT.cT h t [g] false).trans (a (h.cT t [g] false))
  exact(e k.toNat h).trans (I8 l (Inv.dk k.toNat h))
def I9{t:Int}:∀(n:Nat) {S:Cs},Inv S->eT S (dL t n S).1
 |0,S,_=>.refl S
 |n+1,S,h=>by
  unfold dL;dsimp only;split;·exact(eT.cT h t _ _).trans (I9 n (h.c6 t))
  ·exact eT.cT h t _ _
def Cp(h:Inv S)(t n:Int):eT S (S.shrink t n).1:=by
 unfold Cs.shrink;split;·exact .refl S
 ·exact(I8 _ h).trans (I9 _ (Inv.cx _ h))
def Ja(h:Inv S)(hn:S.bt.next<16777216){g:Int}(hl:S.live g=true)(text:bA UInt8):S.bt.next<=(S.di g text).1.bt.next/\(S.di g text).1.bt.next<=S.bt.next+1:=by
 rcases yd h hn hl text with⟨S0,a,k,he,_,_⟩|⟨S0,t,k,he⟩
 ·have hk:=k.outs.kept h;have b:=k.outs.inv h;have hm:=rT S0.bt (kf:= -1) (ki:=0) (o:=g) ⟨b.cI.next,by rw[hk.next];exact hn⟩ (.inl bN);have:(S.di g text).1.bt.next=S.bt.next+1:=by
   rw[he];show(((S0.bt.make (-1) 0 g).1.own S0.bt.next g).1.put S0.bt.next 1 a).1.next=_;have h1:∀(T:TS) (id pl x:Int),(T.put id pl x).1.next=T.next:=by
    intro T id pl x;unfold TS.put;split;·rfl
    ·split;·rfl
     ·split<;>rfl
   rw[h1,(I7 _ _ _).1,hm.2.1,hk.next]
  omega
 ·rw[he];have:=(k.outs.kept h).next;show S.bt.next<=S0.bt.next/\S0.bt.next<=_;omega
def yi(h:Inv0 S)(b:∀x p,S.bt.pg x=some p->p.kf<0->p.place≠0)(id g:Int):(S.bY id g).1.bt.next=S.bt.next:=by
 have d:Inv S:=⟨h,b⟩
 cases hp:S.bt.pg id with
 |none=>rw[p3 h (.inl hp)]
 |some p=>
  cases hl:S.live g with
  |false=>rw[p3 h (.inr (.inl hl))]
  |true=>
   by_cases c:p.place=0/\p.kf<0;·rw[p3 h (.inr (.inr ⟨p,hp,c⟩))]
   ·by_cases h1:p.place=1;·rw[ye h hp h1 hl]
    ·rcases vq h b hp hl c h1 with⟨S0,a,k,e⟩|⟨S0,t,k,he⟩
     ·exact k.next
     ·rw[he];exact(k.outs.kept d).next
def fc(h:Inv S)(hn:S.bt.next<16777216)(x:Act):S.bt.next<=(S.act x).1.bt.next/\(S.act x).1.bt.next<=S.bt.next+1:=by
 have same:∀ {T:TS},T.next=S.bt.next->S.bt.next<=T.next/\T.next<=S.bt.next+1:=λe=>bu
 refine yh (P:=λr=>S.bt.next<=r.1.bt.next/\r.1.bt.next<=S.bt.next+1) S x (λ_=>?_) (λ_=>?_) (λ_=>?_) (λ_=>?_) (λ_=>?_) (λ_=>?_) (λ_=>?_) (λ_=>?_) (λ_=>?_) (λ_=>?_) (λ_=>?_) (λ_=>?_);·refine same ?_;unfold Cs.ct;dsimp only;split<;>rfl
 ·refine same ?_;unfold Cs.remove;dsimp only;split;·exact(rU _ _ _).1
  ·rfl
 ·refine same ?_;unfold Cs.cJ Cs.iV;repeat' split
  all_goals rfl
 ·unfold Cs.fresh;split;·exact same rfl
  ·next hl=>exact Ja h hn (by simpa using hl) _
 ·unfold Cs.cH;dsimp only;split;·exact same rfl
  ·next d=>
   have hl:S.live x.a=true:=by
    cases a:S.live x.a with
    |true=>rfl
    |false=>exact absurd (.inr a) d
   have hf:eo S.files (x.kf,x.ki)=true:=by
    cases a:eo S.files (x.kf,x.ki)with
    |true=>rfl
    |false=>exact absurd (.inl a) d
   by_cases hm:S.bt.of (x.kf,x.ki)<0
   ·rw[dK hm];simp only[g4];have g:=yf hf;have i:=rT S.bt (kf:=x.kf) (ki:=x.ki) (o:=x.a) ⟨h.cI.next,hn⟩ (.inr hm);have k:=h.toInv0.make hn (kf:=x.kf) (ki:=x.ki) hl (.inr ⟨hm,hf⟩);have j:hj S.bt x.kf x.ki=(x.kf,x.ki):=by unfold hj;rw[bJ (by have:0<=x.kf:=g;omega)]
    have c:∀y p,(S.bt.make x.kf x.ki x.a).1.pg y=some p->p.kf<0->p.place≠0:=by
     intro y q f b;rw[i.2.2]at f;split at f
     ·rw[<- cV f,j]at b;have:x.kf<0:=b;have:0<=x.kf:=g;omega
     ·exact h.anon _ _ f b
    have hb:=yi k c (S.bt.make x.kf x.ki x.a).2.1 x.a;have hb:(Cs.bY {S with bt:=(S.bt.make x.kf x.ki x.a).1} (S.bt.make x.kf x.ki x.a).2.1 x.a).1.bt.next=S.bt.next+1:=by rw[hb];exact i.2.1
    have l:∀(T:TS) (id:Int),(T.drop id).1.next=T.next:=by
     intro T id;unfold TS.drop;split;·rfl
     ·split<;>rfl
    split;·rw[hb];omega
    ·show _<=((Cs.bY _ _ _).1.bt.drop _).1.next/\((Cs.bY _ _ _).1.bt.drop _).1.next<=_;rw[l,hb];omega
   ·rw[dq hm];simp only[lZ,gU];have:=yi h.toInv0 h.anon (S.bt.of (x.kf,x.ki)) x.a;split<;>exact same this
 ·exact same (yi h.toInv0 h.anon _ _)
 ·unfold Cs.copy;dsimp only;split;·exact same rfl
  ·next hl=>
   have hl:S.live x.a=true:=by
    cases d:S.live x.a with
    |true=>rfl
    |false=>exact absurd (.inr (.inl d)) hl
   exact Ja h hn hl _
 ·refine same ?_;unfold Cs.put;dsimp only;split;·rfl
  ·split;·exact(rS _ _ _).1
   ·rfl
 ·refine same ?_;unfold Cs.get;dsimp only;split;·rfl
  ·dsimp only;split<;>rfl
 ·refine same ?_;rcases oz h x.b x.c with⟨_,he⟩|⟨p,hp,⟨_,he⟩|⟨_,_,he⟩|⟨_,_,_,_,he,_⟩⟩
  ·rw[he]
  ·rw[he]
  ·rw[he];rfl
  ·exact he
 ·exact same rfl
 ·exact same ((Cp h _ _).kept h).next
end Go.Kc
