/- Part of a proof about the core: of its walks and plain laws. -/
import Derived.Test.YtafigbgagbolgaaGreatDoorC02
set_option linter.all false
open Go.IntKind(i64 u64)
namespace Go.Kc
open Go Go.Kt Go.Sp
def l5{l:List G}(h:WF l){g:Int}(b:dw l g=true):(∀x∈c8 l g,0<=x/\x<64)/\(c8 l g).Nodup/\(0:Int)∈c8 l g/\g∈c8 l g:=by
 obtain⟨n,rfl,x,hx,k⟩:=iE.1 b;have a:=(cT.1 hx).1;have d:=h.fq;have e:c8 l (n:Int)=(chain l n).map Int.ofNat:=by unfold c8;rw[bM b,dk]
 rw[e];refine⟨λy i=>?_,?_,e4.2 ⟨0,Ua h n a,rfl⟩,?_⟩
 ·obtain⟨z,j,rfl⟩:=e4.1 i;have:=(Be h n a).1 z j;show(0:Int)<=(z:Int)/\(z:Int)<64;omega
 ·rw[nT,jK];exact(nT.1 (T9 h n a)).imp (λc e=>c (Int.ofNat.inj e))
 ·obtain⟨r,f⟩:=Hp l n;rw[f];exact e4.2 ⟨n,by simp,rfl⟩
def tj{l:List G}(h:WF l){g:Int}(a:dw l g=true){n:Int}(b:0<=n/\n<=top):iH (c8 l g) n=true:=by
 have:=l5 h a;exact l4.2 ⟨this.1,this.2.1,b⟩
structure ha(T:TS):Prop where
 next:0<=T.next
 ids:∀id p,T.pg id=some p->0<=id/\id<T.next
 spot:∀pl a id,T.cV (pl,a)=some id↔∃p,T.pg id=some p/\p.place=pl/\p.at_=a/\pl≠0
 file:∀kf ki id,T.files (kf,ki)=some id↔∃p,T.pg id=some p/\p.kf=kf/\p.ki=ki/\0<=kf
 pl:∀id p,T.pg id=some p->(0<=p.place/\p.place<=2/\0<=p.at_/\(p.place=0->p.at_=0))/\0<=p.refs
def ha.zero:ha TS.zero:=⟨e7 _,λ_ _ h=>(by cases h),λ_ _ _=>⟨λh=>(by cases h),λ⟨_,h,_⟩=>by cases h⟩,λ_ _ _=>⟨λh=>(by cases h),λ⟨_,h,_⟩=>by cases h⟩,λ_ _ h=>by cases h⟩
variable{T:TS}
def ha.one(h:ha T){id c:Int}{p d:Pg}(h1:T.pg id=some p)(f:T.pg c=some d)(e:p.place≠0)(g:d.place=p.place)(i:d.at_=p.at_):c=id:=by
 have a:=(h.spot p.place p.at_ id).2 ⟨p,h1,rfl,rfl,e⟩;have b:=(h.spot p.place p.at_ c).2 ⟨d,f,g,i,e⟩;rw[a]at b;exact(cQ b).symm
def Pg.to(p:Pg)(pl a:Int):Pg:={p with place:=pl,at_:=a}
def TS.dP(T:TS)(id:Int)(p:Pg)(pl a:Int):TS:=
 {pg:=cK T.pg id (some (p.to pl a)),files:=T.files,cV:=if pl≠0 then cK (cK T.cV (p.place,p.at_) none) (pl,a) (some id)else cK T.cV (p.place,p.at_) none,next:=T.next}
def l6{κ α:Type}[DecidableEq κ](f:κ->Option α)(k:κ)(v:Option α):cK f k v k=v:=by unfold cK;rw[bM rfl]
def c9{κ α:Type}[DecidableEq κ](f:κ->Option α){k x:κ}(v:Option α)(h:x≠k):cK f k v x=f x:=by unfold cK;rw[bJ h]
def kC{κ α:Type}[DecidableEq κ]{f:κ->Option α}{k x:κ}{v y:α}(h:cK f k (some v) x=some y):(x=k/\y=v)\/(x≠k/\f x=some y):=by
 unfold cK at h;split at h;·next e=>exact .inl ⟨e,(cQ h).symm⟩
 ·next e=>exact .inr ⟨e,h⟩
def ha.put_eq(h:ha T){id:Int}{p:Pg}(hp:T.pg id=some p){pl a:Int}(k:0<=pl/\pl<=2/\0<=a/\(pl=0->a=0))(c:∀q b,T.pg b=some q->q.place=pl->q.at_=a->pl≠0->b=id):
  T.put id pl a=(T.dP id p pl a,0):=by
 unfold TS.put;rw[hp];dsimp only;rw[cM,bJ];·rfl
 ·rintro⟨h1,d⟩;unfold TS.at_ at h1 d;cases e:T.cV (pl,a)with
  |none=>rw[e]at h1;simp at h1
  |some b=>
   rw[e]at d;obtain⟨q,j,f,g,i⟩:=(h.spot pl a b).1 e;exact d (c q b j f g i)
def ha.dP(h:ha T){id:Int}{p:Pg}(hp:T.pg id=some p){pl a:Int}(o:0<=pl/\pl<=2/\0<=a/\(pl=0->a=0))(m:∀q n,T.pg n=some q->q.place=pl->q.at_=a->pl≠0->n=id):
  ha (T.dP id p pl a):=by
 have j:∀x,(T.dP id p pl a).pg x=if x=id then some (p.to pl a)else T.pg x:=λx=>rfl
 refine⟨h.next,λx q b=>?_,λc a' x=>?_,λkf ki x=>?_,λx q b=>?_⟩
 ·rcases kC b with⟨rfl,rfl⟩|⟨_,b⟩
  ·exact h.ids _ _ hp
  ·exact h.ids _ _ b
 ·have r:(T.dP id p pl a).cV (c,a')=some x↔((pl≠0/\c=pl/\a'=a)/\x=id)\/(¬ (pl≠0/\c=pl/\a'=a)/\¬ (c=p.place/\a'=p.at_)/\T.cV (c,a')=some x):=by
   unfold TS.dP;dsimp only;by_cases k:pl=0
   ·rw[bJ (by simpa using k)];unfold cK;by_cases e:(c,a')=(p.place,p.at_)
    ·rw[bM e];have e':c=p.place/\a'=p.at_:=by simpa using e
     simp[k,e']
    ·rw[bJ e];have e':¬ (c=p.place/\a'=p.at_):=by simpa using e
     simp[k,e']
   ·rw[bM k];unfold cK;by_cases d:(c,a')=(pl,a)
    ·rw[bM d];have l:c=pl/\a'=a:=by simpa using d
     simp[k,l,eq_comm]
    ·rw[bJ d];have l:¬ (c=pl/\a'=a):=by simpa using d
     by_cases e:(c,a')=(p.place,p.at_)
     ·rw[bM e];have e':c=p.place/\a'=p.at_:=by simpa using e
      refine⟨λg=>(by cases g),?_⟩;rintro(⟨g,_⟩|⟨_,g,_⟩);·exact absurd g.2 l
      ·exact absurd e' g
     ·rw[bJ e];have e':¬ (c=p.place/\a'=p.at_):=by simpa using e
      have:¬ (pl≠0/\c=pl/\a'=a):=λg=>l g.2;simp[this,e']
  rw[r];constructor
  ·rintro(⟨⟨k,rfl,rfl⟩,rfl⟩|⟨h1,s,t⟩);·exact⟨_,by rw[j,bM rfl],rfl,rfl,k⟩
   ·obtain⟨q,b,f,d,i⟩:=(h.spot _ _ _).1 t;have hx:x≠id:=by
     rintro rfl;rw[hp]at b;have:=cQ b;subst this;exact s ⟨f.symm,d.symm⟩
    exact⟨q,by rw[j,bJ hx];exact b,f,d,i⟩
  ·rintro⟨q,b,f,d,i⟩;rw[j]at b;by_cases hx:x=id
   ·rw[bM hx]at b;have:=cQ b;subst this;have f:pl=c:=f;have d:a=a':=d;exact .inl ⟨⟨by rw[f];exact i,f.symm,d.symm⟩,hx⟩
   ·rw[bJ hx]at b;refine .inr ⟨λg=>hx (m q x b (by rw[f,g.2.1]) (by rw[d,g.2.2]) g.1),λg=>hx ?_,(h.spot _ _ _).2 ⟨q,b,f,d,i⟩⟩;exact h.one hp b (by rw[<- g.1];exact i) (by rw[f,g.1]) (by rw[d,g.2])
 ·show T.files (kf,ki)=some x↔_;rw[h.file];constructor
  ·rintro⟨q,b,f,d,i⟩;by_cases hx:x=id
   ·subst hx;rw[hp]at b;have:=cQ b;subst this;exact⟨p.to pl a,by rw[j,bM rfl],f,d,i⟩
   ·exact⟨q,by rw[j,bJ hx];exact b,f,d,i⟩
  ·rintro⟨q,b,f,d,i⟩;rw[j]at b;by_cases hx:x=id
   ·rw[bM hx]at b;have:=cQ b;subst this;subst hx;exact⟨p,hp,f,d,i⟩
   ·rw[bJ hx]at b;exact⟨q,b,f,d,i⟩
 ·rcases kC b with⟨rfl,rfl⟩|⟨_,b⟩
  ·exact⟨o,(h.pl _ _ hp).2⟩
  ·exact h.pl _ _ b
def ha.set(h:ha T){id:Int}{p q:Pg}(hp:T.pg id=some p)(h1:q.place=p.place)(c:q.at_=p.at_)(f:q.kf=p.kf)(g:q.ki=p.ki)(i:0<=q.refs):ha (T.cI id q):=by
 have e:∀x,(T.cI id q).pg x=if x=id then some q else T.pg x:=λx=>rfl
 have key:∀ {x:Int} {R:Pg->Prop},(R p↔R q)->((∃r,T.pg x=some r/\R r)↔∃r,(T.cI id q).pg x=some r/\R r):=by
  intro x R d;rw[e];by_cases hx:x=id
  ·subst hx;rw[bM rfl,hp];constructor;·rintro⟨r,b,h⟩;have:=cQ b;subst this;exact⟨q,rfl,d.1 h⟩
   ·rintro⟨r,b,h⟩;have:=cQ b;subst this;exact⟨p,rfl,d.2 h⟩
  ·rw[bJ hx]
 refine⟨h.next,λx r b=>?_,λpl a x=>?_,λkf ki x=>?_,λx r b=>?_⟩
 ·rcases kC b with⟨rfl,rfl⟩|⟨_,b⟩
  ·exact h.ids _ _ hp
  ·exact h.ids _ _ b
 ·exact(h.spot pl a x).trans (key (R:=λr=>r.place=pl/\r.at_=a/\pl≠0) (by rw[h1,c]))
 ·exact(h.file kf ki x).trans (key (R:=λr=>r.kf=kf/\r.ki=ki/\0<=kf) (by rw[f,g]))
 ·rcases kC b with⟨rfl,rfl⟩|⟨_,b⟩
  ·have:=(h.pl _ _ hp).1;rw[h1,c];exact⟨this,i⟩
  ·exact h.pl _ _ b
def l7(T:TS)(pl:Int)(is:Pg->Bool):Nat->Bool:=λi=>match T.pg (i:Int)with
 |some p=>p.place==pl&&is p
 |none=>false
def hY(T:TS)(pl:Int)(is:Pg->Bool):Nat:=hj T.next.toNat (l7 T pl is)
def below(tree:List G)(g:Int):Pg->Bool:=λp=>(c8 tree p.owner).contains g
def pB(o:Option Pg)(pl:Int)(is:Pg->Bool):Bool:=match o with
 |some p=>p.place==pl&&is p
 |none=>false
def Iu(h:ha T){T':TS}{id:Int}{p:Pg}(hp:T.pg id=some p)(c:T'.next=T.next)(ho:∀x,x≠id->T'.pg x=T.pg x)(pl:Int)(is:Pg->Bool):
  hY T' pl is+(pB (some p) pl is).toNat=hY T pl is+(pB (T'.pg id) pl is).toNat:=by
 have d:=h.ids _ _ hp;have:=Vr (n:=T.next.toNat) (k:=id.toNat) (f:=l7 T pl is) (f':=l7 T' pl is) bA (λi j g=>by
  unfold l7;rw[ho (i:Int) bA])
 have e:(id.toNat:Int)=id:=by omega
 have a:l7 T pl is id.toNat=pB (some p) pl is:=by unfold l7 pB;rw[e,hp]
 have b:l7 T' pl is id.toNat=pB (T'.pg id) pl is:=by unfold l7 pB;rw[e]
 rw[a,b]at this;unfold hY;rw[c];exact this
def tk{T':TS}{pl:Int}{is a:Pg->Bool}(b:T'.next=T.next)(h:∀x,pB (T'.pg x) pl a=pB (T.pg x) pl is):hY T' pl a=hY T pl is:=by
 unfold hY;rw[b];exact B1 (λi _=>h i)
structure hZ(T:TS)(tree:List G)(s:eJ)(pl:Int):Prop where
 fq:s.bK.length<=1024
 len:s.cG.length=16*s.bK.length
 used:hd s.used
 taken:∀a:Nat,s.bK[a]?=some true↔∃id p,T.pg id=some p/\p.place=pl/\p.at_=a
 use:∀g,0<=g->g<64->cJ s.used g=hY T pl (below tree g)
 all:s.bK.count true=hY T pl (λ_=>true)
variable{tree:List G}{s:eJ}
def Vw{n:Nat}{X:List UInt8}(h:X.length=16*n)(i:Int):(By.cl n X i).1.length=16*n:=By.B0 h _
def hZ.di(y:ha T)(hw:WF tree){pl:Int}(h:hZ T tree s pl)(D:pl≠0){id:Int}{p:Pg}(hp:T.pg id=some p)(h1:p.place=pl)(ho:dw tree p.owner=true){T':TS}(H:T'.next=T.next)(i:∀x,x≠id->T'.pg x=T.pg x)(r:∀q,T'.pg id=some q->q.place≠pl):hZ T' tree (s.di p.at_ (c8 tree p.owner)) pl:=by
 obtain⟨J,I⟩:=y.pl _ _ hp;obtain⟨a,z⟩:∃a:Nat,p.at_=a:=⟨p.at_.toNat,bA⟩
 have t:s.bK[a]?=some true:=(h.taken a).2 ⟨id,p,hp,h1,z⟩;have A:=l5 hw ho;have C:∀is:Pg->Bool,pB (T'.pg id) pl is=false:=by
  intro is;cases d:T'.pg id with
  |none=>rfl
  |some q=>unfold pB;simp[r q d]
 have k:∀is:Pg->Bool,hY T' pl is+(is p).toNat=hY T pl is:=by
  intro is;have:=Iu y hp H i pl is;rw[C is]at this;simpa[pB,h1]using this
 have w:fJ s.used (c8 tree p.owner) 1=(dt s.used (c8 tree p.owner) (-1),0):=by
  refine rD (tj hw ho ⟨bO,bO⟩) (λg u=>?_);have l:=A.1 g u;rw[h.use g l.1 l.2];have:=k (below tree g);have o:below tree g p=true:=kI.2 u;rw[o]at this;simp at this;omega
 have v:mJ s.bK p.at_=(s.bK.set a false,0):=by rw[z];exact Vv t
 have m:=hd.di h.used (c8 tree p.owner) 1;rw[w]at m;unfold eJ.di;rw[w,v];refine⟨by simpa using h.fq,?_,m,λb=>?_,λg u l=>?_,?_⟩
 ·show(By.cl s.bK.length s.cG p.at_).1.length=16*(s.bK.set a false).length;rw[dA];exact Vw h.len _
 ·show(s.bK.set a false)[b]?=some true↔_;have B:=(cT.1 t).1;by_cases e:a=b
  ·subst e;rw[iM B];refine⟨λG=>(by cases G),?_⟩;rintro⟨f,q,d,j,n⟩;by_cases hx:f=id;·subst hx;exact absurd j (r q d)
   ·rw[i _ hx]at d;exact absurd (y.one hp d (by rw[h1];exact D) (by rw[j,h1]) (by rw[n,z])) hx
  ·rw[h4 e,h.taken b];constructor
   ·rintro⟨f,q,d,j,n⟩;have hx:f≠id:=by
     rintro rfl;rw[hp]at d;have:=cQ d;subst this;omega
    exact⟨f,q,by rw[i _ hx];exact d,j,n⟩
   ·rintro⟨f,q,d,j,n⟩;by_cases hx:f=id;·subst hx;exact absurd j (r q d)
    ·rw[i _ hx]at d;exact⟨f,q,d,j,n⟩
 ·show cJ (dt s.used (c8 tree p.owner) (-1)) g=_;rw[oc h.used.len A.1 A.2.1,h.use g u l];have:=k (below tree g);by_cases hm:g∈c8 tree p.owner
  ·have o:below tree g p=true:=kI.2 hm;rw[o]at this;rw[bM hm];simp at this;omega
  ·have o:below tree g p=false:=by unfold below;simpa using hm
   rw[o]at this;rw[bJ hm];simp at this;omega
 ·show(s.bK.set a false).count true=_;have E:=B2 (c:=false) t;have F:=k (λ_=>true);have K:=h.all;simp at E F;omega
def hZ.pS(C:ha T)(hw:WF tree){pl:Int}(h:hZ T tree s pl){id:Int}{p q:Pg}(hp:T.pg id=some p)(h1:p.place≠pl){T':TS}(E:T'.next=T.next)(i:∀x,x≠id->T'.pg x=T.pg x)(m:T'.pg id=some q)(z:q.place=pl)(ho:dw tree q.owner=true){a:Nat}(A:q.at_=a)(v:s.bK[a]?=some false)(u:∀g∈c8 tree q.owner,cJ s.used g+1<=db s.used g){X:List UInt8}(D:X.length=16*s.bK.length):hZ T' tree ⟨s.bK.set a true,X,dt s.used (c8 tree q.owner) 1⟩ pl:=by
 have j:=l5 hw ho;have l:∀is:Pg->Bool,hY T' pl is=hY T pl is+(is q).toNat:=by
  intro is;have:=Iu C hp E i pl is;rw[m]at this;have k:(p.place==pl)=false:=by simpa using h1
  simpa[pB,k,z]using this
 have w:=(cT.1 v).1;refine⟨by simpa using h.fq,by simpa using D,?_,λb=>?_,λg y o=>?_,?_⟩
 ·refine hd.mk' (by rw[nw];exact h.used.len) (λg y o=>?_);rw[oc h.used.len j.1 j.2.1,tf h.used.len j.1 j.2.1];have ho:=h.used.of g;unfold cJ db at*
  split;·next hm=>have:=u g hm;omega
  ·omega
 ·show(s.bK.set a true)[b]?=some true↔_;by_cases e:a=b
  ·subst e;rw[iM w];exact⟨λ_=>⟨id,q,m,z,A⟩,λ_=>rfl⟩
  ·rw[h4 e,h.taken b];constructor
   ·rintro⟨f,r,d,n,t⟩;have hx:f≠id:=by
     rintro rfl;rw[hp]at d;have:=cQ d;subst this;exact h1 n
    exact⟨f,r,by rw[i _ hx];exact d,n,t⟩
   ·rintro⟨f,r,d,n,t⟩;by_cases hx:f=id
    ·subst hx;rw[m]at d;have:=cQ d;subst this;omega
    ·rw[i _ hx]at d;exact⟨f,r,d,n,t⟩
 ·show cJ (dt s.used (c8 tree q.owner) 1) g=_;rw[oc h.used.len j.1 j.2.1,h.use g y o,l];by_cases hm:g∈c8 tree q.owner
  ·have k:below tree g q=true:=kI.2 hm;rw[k,bM hm];simp
  ·have k:below tree g q=false:=by unfold below;simpa using hm
   rw[k,bJ hm];simp
 ·show(s.bK.set a true).count true=_;have B:=B2 (c:=true) v;have F:=h.all;rw[l];simp at B ⊢;omega
def hZ.other{pl:Int}(h:hZ T tree s pl){T':TS}(t:T'.next=T.next)(u:∀x,(T'.pg x=T.pg x)\/((∀p,T.pg x=some p->p.place≠pl)/\∀p,T'.pg x=some p->p.place≠pl)
   \/(∃p q,T.pg x=some p/\T'.pg x=some q/\q.place=p.place/\q.at_=p.at_/\q.owner=p.owner)):hZ T' tree s pl:=by
 have key:∀(x:Int) (is:Pg->Bool),(∀p q:Pg,p.owner=q.owner->is p=is q)->pB (T'.pg x) pl is=pB (T.pg x) pl is:=by
  intro x is o;rcases u x with e|⟨h1,c⟩|⟨p,q,h1,c,d,j,m⟩
  ·rw[e]
  ·have a:pB (T.pg x) pl is=false:=by
    cases k:T.pg x with
    |none=>rfl
    |some p=>unfold pB;simp[h1 p k]
   have b:pB (T'.pg x) pl is=false:=by
    cases k:T'.pg x with
    |none=>rfl
    |some p=>unfold pB;simp[c p k]
   rw[a,b]
  ·rw[h1,c];unfold pB;dsimp only;rw[d,o q p m]
 have v:∀(x a:Int),(∃p,T'.pg x=some p/\p.place=pl/\p.at_=a)↔∃p,T.pg x=some p/\p.place=pl/\p.at_=a:=by
  intro x a;rcases u x with e|⟨h1,c⟩|⟨p,q,h1,c,d,j,m⟩
  ·rw[e]
  ·exact⟨λ⟨p,hp,e,_⟩=>absurd e (c p hp),λ⟨p,hp,e,_⟩=>absurd e (h1 p hp)⟩
  ·rw[h1,c];constructor;·rintro⟨r,l,f,i⟩;have:=cQ l;subst this;exact⟨p,rfl,by rw[<- d,f],by rw[<- j,i]⟩
   ·rintro⟨r,l,f,i⟩;have:=cQ l;subst this;exact⟨q,rfl,by rw[d,f],by rw[j,i]⟩
 refine⟨h.fq,h.len,h.used,λa=>?_,λg w n=>?_,?_⟩
 ·rw[h.taken a];exact⟨λ⟨x,hx⟩=>⟨x,(v x a).2 hx⟩,λ⟨x,hx⟩=>⟨x,(v x a).1 hx⟩⟩
 ·rw[h.use g w n,tk t (λx=>key x _ (λp q e=>by unfold below;rw[e]))]
 ·rw[h.all,tk t (λx=>key x _ (λ_ _ _=>rfl))]
end Go.Kc
namespace Go.Kc
open Go Go.Kt Go.Sp
structure Inv0(S:Cs):Prop where
 wf:WF S.tree
 gl:S.guards.length=S.tree.length
 ct:ha S.bz
 own:∀id p,S.bz.pg id=some p->S.live p.owner=true
 fr:hZ S.bz S.tree S.fr 1
 sl:hZ S.bz S.tree S.sl 2
 eo:Good S.bY
 gen:∀id g,(∃e∈S.bY,e.id=id/\e.group=g)↔∃p,S.bz.pg id=some p/\p.place=1/\p.owner=g
 log:S.log.length=64
 kb:∀id p,S.bz.pg id=some p->0<=p.kf->ed S.files (p.kf,p.ki)=true/\p.place≠2
 rE:∀k t,S.files.bz k=some t->t.length=16
 ids:S.bz.next<=16777216
structure Inv(S:Cs):Prop extends Inv0 S where
 anon:∀id p,S.bz.pg id=some p->p.kf<0->p.place≠0
variable{R:List dz}
def Iw(G:Good R){id x g:Int}:(∃e∈(iT R id).1,e.id=x/\e.group=g)↔x≠id/\∃e∈R,e.id=x/\e.group=g:=by
 unfold iT;split
 ·constructor
  ·rintro⟨e,he,rfl,rfl⟩;rw[fO]at he;exact⟨by simpa using he.2,e,he.1,rfl,rfl⟩
  ·rintro⟨hx,e,he,rfl,rfl⟩;exact⟨e,fO.2 ⟨he,by simpa using hx⟩,rfl,rfl⟩
 ·next hf=>
  have hf:e9 R id=none:=by simpa using hf
  have a:=(ta G.cX).1 hf;constructor;·rintro⟨e,he,rfl,rfl⟩;exact⟨a e he,e,he,rfl,rfl⟩
  ·rintro⟨_,h⟩;exact h
def Vx{id:Int}(h:(e9 R id).isSome=true):(iT R id).1.length<R.length:=by
 unfold iT;rw[bM h];obtain⟨e,he⟩:=kq.1 h;have hm:e∈R:=xu he;have hp:e.id=id:=by simpa using Ha he
 rcases gS (R.filter λe=>e.id !=id).length R.length with h1|h1;·exact h1
 ·exfalso;have a:(R.filter λe=>e.id !=id).length=R.length:=Nat.le_antisymm (lp _ _) h1;have b:=List.length_filter_eq_length_iff.1 a e hm;simp[hp]at b
def Vy{id x g:Int}:(∃e∈(j7 R id).1,e.id=x/\e.group=g)↔∃e∈R,e.id=x/\e.group=g:=by
 unfold j7;split
 ·constructor
  ·rintro⟨e,he,rfl,rfl⟩;obtain⟨y,a,rfl⟩:=e4.1 he;refine⟨y,a,?_,?_⟩<;>split<;>rfl
  ·rintro⟨y,a,rfl,rfl⟩;refine⟨_,e4.2 ⟨y,a,rfl⟩,?_,?_⟩<;>split<;>rfl
 ·exact lS
def Vz(G:Good R){id g:Int}{dZ:Bool}(a:¬ hW id g)(hf:e9 R id=none){x o:Int}:(∃e∈(jw R id g dZ).1,e.id=x/\e.group=o)↔(x=id/\o=g)\/∃e∈R,e.id=x/\e.group=o:=by
 unfold jw;rw[bJ a,hf];simp only[T3,kK,gq];have hm:=λy=>x2 (R:=R) (x:=⟨id,g,if dZ then 1 else 0⟩) (y:=y) ((ta G.cX).1 hf);constructor
 ·rintro⟨e,he,rfl,rfl⟩;rcases(hm e).1 he with rfl|he;·exact .inl ⟨rfl,rfl⟩
  ·exact .inr ⟨e,he,rfl,rfl⟩
 ·rintro(⟨rfl,rfl⟩|⟨e,he,rfl,rfl⟩);·exact⟨_,(hm _).2 (.inl rfl),rfl,rfl⟩
  ·exact⟨e,(hm _).2 (.inr he),rfl,rfl⟩
def VA(G:Good R){id:Int}:(e9 R id).isSome=true↔∃e∈R,e.id=id:=by
 constructor
 ·intro h;obtain⟨e,he⟩:=kq.1 h;have:=(kz G.cX).1 he;exact⟨e,this.1,this.2⟩
 ·rintro⟨e,he,a⟩;rw[(kz G.cX).2 ⟨he,a⟩];rfl
def VB{g:Int}{c:Int->Int->Int×Int}(f:∀a b,(c a b).1=a){x o:Int}:(∃e∈(ia R g c).1,e.id=x/\e.group=o)↔∃e∈R,e.id=x/\e.group=o:=by
 have h:∀e:dz,(jx g c e).group=e.group:=λe=>by unfold jx;split<;>simp[f]
 constructor
 ·rintro⟨e,he,rfl,rfl⟩;obtain⟨y,d,rfl⟩:=e4.1 he;exact⟨y,d,(td g c y).symm,(h y).symm⟩
 ·rintro⟨y,d,rfl,rfl⟩;exact⟨_,e4.2 ⟨y,d,rfl⟩,td g c y,h y⟩
def VC{g:Int}{a:Int->Int->Int×Int}:(ia R g a).1.length=R.length:=by unfold ia;simp
variable{S:Cs}
def Inv.new(bN bR:Int)(bP:bU):Inv (new bN bR bP):=by
 have b:∀n pl,hZ TS.zero Kt.new (gv n) pl:=by
  intro n pl;have c:∀is:Pg->Bool,hY TS.zero pl is=0:=λis=>rfl;refine⟨by show(List.replicate _ false).length<=1024;simp;omega,by show(List.replicate _ (0:UInt8)).length=16*(List.replicate _ false).length;simp,hd.new,λa=>?_,λg d h1=>?_,?_⟩
  ·constructor
   ·intro h;have h:(List.replicate (min (max n 0).toNat 1024) false)[a]?=some true:=h;rw[lN]at h;split at h<;>simp at h
   ·rintro⟨_,_,h,_⟩;cases h
  ·rw[c];show cJ (List.replicate 64 ⟨0,top⟩) g=0;unfold cJ gU;split;·rw[dK,lN,eG];rfl
   ·rfl
  ·rw[c];show(List.replicate (min (max n 0).toNat 1024) false).count true=0;rw[List.count_replicate];rfl
 exact⟨⟨Ub,rfl,ha.zero,λ_ _ h=>(by cases h),b _ _,b _ _,Good.nil,λid g=>⟨λ⟨_,h,_⟩=>(by cases h),λ⟨_,h,_⟩=>by cases h⟩,kJ,λ_ _ h=>(by cases h),λ_ _ h=>(by cases h),(by show(0:Int)<=16777216;decide)⟩,λ_ _ h=>by cases h⟩
def Inv.pT(h:Inv S){R:List dz}(a:Good R)(hm:∀x o,(∃e∈R,e.id=x/\e.group=o)↔∃e∈S.bY,e.id=x/\e.group=o):Inv {S with bY:=R} :=
 {h with eo:=a,gen:=λid g=>(hm id g).trans (h.gen id g)}
def Inv.file(h:Inv S){k:Int×Int}{t:List UInt8}:Inv {S with files:=(np S.files k t).1} :=by
 unfold np;split;·exact h
 ·split;·exact h
  ·next a=>
   have a:t.length=16:=by simpa using a
   refine {h with kb:=λid p hp=>?_,rE:=λx u hu=>?_};·exact h.kb id p hp
   ·have hu:(if x=k then some t else S.files.bz x)=some u:=hu;split at hu;·rw[<- cQ hu];exact a
    ·exact h.rE x u hu
def Inv.cI(h:Inv S){id:Int}{p q:Pg}(hp:S.bz.pg id=some p)(h1:q.place=p.place)(d:q.at_=p.at_)(f:q.kf=p.kf)(i:q.ki=p.ki)(k:0<=q.refs)(c:q.owner=p.owner):Inv {S with bz:=S.bz.cI id q} :=by
 have l:∀x,((S.bz.cI id q).pg x=S.bz.pg x)\/((∀p,S.bz.pg x=some p->p.place≠1)/\∀p,(S.bz.cI id q).pg x=some p->p.place≠1)\/(∃p b,S.bz.pg x=some p/\(S.bz.cI id q).pg x=some b/\b.place=p.place/\b.at_=p.at_/\b.owner=p.owner):=by
  intro x;by_cases hx:x=id;·subst hx;exact .inr (.inr ⟨p,q,hp,l6 _ _ _,h1,d,c⟩)
  ·exact .inl (c9 _ _ hx)
 have j:∀x,((S.bz.cI id q).pg x=S.bz.pg x)\/((∀p,S.bz.pg x=some p->p.place≠2)/\∀p,(S.bz.cI id q).pg x=some p->p.place≠2)\/(∃p b,S.bz.pg x=some p/\(S.bz.cI id q).pg x=some b/\b.place=p.place/\b.at_=p.at_/\b.owner=p.owner):=by
  intro x;by_cases hx:x=id;·subst hx;exact .inr (.inr ⟨p,q,hp,l6 _ _ _,h1,d,c⟩)
  ·exact .inl (c9 _ _ hx)
 refine {h with ct:=h.ct.set hp h1 d f i k,own:=λx r a=>?_,fr:=h.fr.other rfl l,sl:=h.sl.other rfl j,gen:=λx g=>?_,kb:=λx r a=>?_,anon:=λx r a=>?_}
 ·rcases kC a with⟨rfl,rfl⟩|⟨_,a⟩
  ·show S.live r.owner=true;rw[c];exact h.own _ _ hp
  ·exact h.own _ _ a
 ·show(∃e∈S.bY,e.id=x/\e.group=g)↔∃r,cK S.bz.pg id (some q) x=some r/\r.place=1/\r.owner=g;rw[h.gen];by_cases hx:x=id
  ·subst hx;rw[l6,hp];constructor;·rintro⟨r,a,e⟩;have:=cQ a;subst this;exact⟨q,rfl,by rw[h1,c];exact e⟩
   ·rintro⟨r,a,e⟩;have:=cQ a;subst this;exact⟨p,rfl,by rw[<- h1,<- c];exact e⟩
  ·rw[c9 _ _ hx]
 ·rcases kC a with⟨rfl,rfl⟩|⟨_,a⟩
  ·rw[h1,f,i];exact h.kb _ _ hp
  ·exact h.kb _ _ a
 ·rcases kC a with⟨rfl,rfl⟩|⟨_,a⟩
  ·rw[h1,f];exact h.anon _ _ hp
  ·exact h.anon _ _ a
def Inv.mark(h:Inv S)(id:Int)(d:Bool):Inv {S with bz:=(S.bz.mark id d).1} :=by
 unfold TS.mark;cases hp:S.bz.pg id with
 |none=>exact h
 |some p=>exact h.cI hp rfl rfl rfl rfl (h.ct.pl _ _ hp).2 rfl
def Inv.clean(h:Inv S)(id:Int)(p:Pg):Inv (S.clean id p):=by
 unfold Cs.clean;split;·exact(h.file (k:=(p.kf,p.ki)) (t:=S.text p)).mark id false
 ·exact h
def Inv.cS(h:Inv S)(id:Int):Inv {S with bY:=(j7 S.bY id).1} :=h.pT (h.eo.cS id) (λ_ _=>Vy)
def x6:∀(l:bU) {R:List dz},Good R->Good (gO R l).1/\(∀x o,(∃e∈(gO R l).1,e.id=x/\e.group=o)↔∃e∈R,e.id=x/\e.group=o)/\(gO R l).1.length=R.length
 |[],_,h=>⟨h,λ_ _=>lS,rfl⟩
 |g::l,R,h=>by
  have h1:=x6 l (h.du g);refine⟨h1.1,λx o=>(h1.2.1 x o).trans (VB (λa b=>rfl)),?_⟩;show(gO (ia R g jy).1 l).1.length=_;rw[h1.2.2,VC]
def Inv.du(h:Inv S)(t:Int):Inv (S.du t).1:=by
 have:=x6 (hT S.tree t) h.eo;exact h.pT this.1 this.2.1
def Inv0.bH(_:Inv0 S){id:Int}{p:Pg}(hp:S.bz.pg id=some p):S.bz.get id=(p,0):=by unfold TS.get;rw[hp]
def Ix(l:bU)(g:Int):(dx l g).1.length=l.length:=by unfold dx;split<;>simp
def iW(T:TS)(id:Int)(p:Pg)(pl a x:Int):(T.dP id p pl a).pg x=if x=id then some (p.to pl a)else T.pg x:=rfl
def Inv0.l8(h:Inv0 S){id:Int}{p:Pg}(hp:S.bz.pg id=some p):S.bz.put id 0 0=(S.bz.dP id p 0 0,0):=
 h.ct.put_eq hp ⟨bO,bO,bO,λ_=>rfl⟩ (λ_ _ _ _ _ h=>absurd rfl h)
def Inv0.lA(h:Inv0 S){id:Int}{p:Pg}(hp:S.bz.pg id=some p)(h1:p.place=1){lg:bU}(k:lg.length=64){K:Int->Option Int}:
  Inv0 {S with bz:=S.bz.dP id p 0 0,fr:=S.fr.di p.at_ (c8 S.tree p.owner),bY:=(iT S.bY id).1,log:=lg,kept:=K} :=by
 have l:∀q i,S.bz.pg i=some q->q.place=0->q.at_=0->(0:Int)≠0->i=id:=λ_ _ _ _ _ h=>absurd rfl h;have m:=h.ct.dP hp (pl:=0) (a:=0) ⟨bO,bO,bO,λ_=>rfl⟩ l;have f:∀x,x≠id->(S.bz.dP id p 0 0).pg x=S.bz.pg x:=λx hx=>c9 _ _ hx;refine⟨h.wf,h.gl,m,λx r b=>?_,h.fr.di h.ct h.wf bO hp h1 (h.own _ _ hp) rfl f (λq c=>?_),h.sl.other rfl (λx=>?_),h.eo.drop id,λx g=>?_,k,λx r b=>?_,h.rE,h.ids⟩
 ·rcases kC b with⟨rfl,rfl⟩|⟨_,b⟩
  ·show S.live p.owner=true;exact h.own _ _ hp
  ·exact h.own _ _ b
 ·rw[iW,bM rfl]at c;rw[<- cQ c];show(0:Int)≠1;decide
 ·by_cases hx:x=id
  ·subst hx;refine .inr (.inl ⟨λq c=>?_,λq c=>?_⟩);·rw[hp]at c;rw[<- cQ c,h1];decide
   ·rw[iW,bM rfl]at c;rw[<- cQ c];show(0:Int)≠2;decide
  ·exact .inl (f x hx)
 ·show(∃e∈(iT S.bY id).1,e.id=x/\e.group=g)↔∃r,(S.bz.dP id p 0 0).pg x=some r/\r.place=1/\r.owner=g;rw[Iw h.eo,h.gen,iW];by_cases hx:x=id
  ·rw[bM hx];refine⟨λd=>absurd hx d.1,?_⟩;rintro⟨r,b,e,_⟩;rw[<- cQ b]at e;have e:(0:Int)=1:=e;omega
  ·rw[bJ hx];exact⟨λd=>d.2,λd=>⟨hx,d⟩⟩
 ·rcases kC b with⟨rfl,rfl⟩|⟨_,b⟩
  ·exact λj=>⟨(h.kb _ _ hp j).1,by show(0:Int)≠2;decide⟩
  ·exact h.kb _ _ b
def Inv0.rF(h:Inv0 S){id:Int}{p:Pg}(hp:S.bz.pg id=some p)(h1:p.place=2):
  Inv0 {S with bz:=S.bz.dP id p 0 0,sl:=S.sl.di p.at_ (c8 S.tree p.owner)} :=by
 have j:∀q f,S.bz.pg f=some q->q.place=0->q.at_=0->(0:Int)≠0->f=id:=λ_ _ _ _ _ h=>absurd rfl h;have k:=h.ct.dP hp (pl:=0) (a:=0) ⟨bO,bO,bO,λ_=>rfl⟩ j;have d:∀x,x≠id->(S.bz.dP id p 0 0).pg x=S.bz.pg x:=λx hx=>c9 _ _ hx;refine⟨h.wf,h.gl,k,λx r b=>?_,h.fr.other rfl (λx=>?_),h.sl.di h.ct h.wf bO hp h1 (h.own _ _ hp) rfl d (λq c=>?_),h.eo,λx g=>?_,h.log,λx r b=>?_,h.rE,h.ids⟩
 ·rcases kC b with⟨rfl,rfl⟩|⟨_,b⟩
  ·show S.live p.owner=true;exact h.own _ _ hp
  ·exact h.own _ _ b
 ·by_cases hx:x=id
  ·subst hx;refine .inr (.inl ⟨λq c=>?_,λq c=>?_⟩);·rw[hp]at c;rw[<- cQ c,h1];decide
   ·rw[iW,bM rfl]at c;rw[<- cQ c];show(0:Int)≠1;decide
  ·exact .inl (d x hx)
 ·rw[iW,bM rfl]at c;rw[<- cQ c];show(0:Int)≠2;decide
 ·show(∃e∈S.bY,e.id=x/\e.group=g)↔∃r,(S.bz.dP id p 0 0).pg x=some r/\r.place=1/\r.owner=g;rw[h.gen,iW];by_cases hx:x=id
  ·subst hx;rw[bM rfl,hp];constructor
   ·rintro⟨r,b,e,_⟩;rw[<- cQ b,h1]at e;cases e
   ·rintro⟨r,b,e,_⟩;rw[<- cQ b]at e;have e:(0:Int)=1:=e;omega
  ·rw[bJ hx]
 ·rcases kC b with⟨rfl,rfl⟩|⟨_,b⟩
  ·exact λi=>⟨(h.kb _ _ hp i).1,by show(0:Int)≠2;decide⟩
  ·exact h.kb _ _ b
def Inv.rG(h:Inv S){id:Int}{p:Pg}(hp:S.bz.pg id=some p)(h1:p.place=1)(c:0<=p.kf):Inv ({S with bz:=(S.bz.put id 0 0).1}.leave id p (S.chain p.owner)):=by
 rw[h.l8 hp];refine⟨h.lA hp h1 (by rw[Ix];exact h.log),λx r b a=>?_⟩;rcases kC b with⟨rfl,rfl⟩|⟨_,b⟩
 ·exact absurd c (by have:p.kf<0:=a;omega)
 ·exact h.anon _ _ b a
def Inv.fa(h:Inv S){id:Int}{p:Pg}(hp:S.bz.pg id=some p)(h1:p.place=1)(A:p.kf<0)(hw:(S.fa id p (S.chain p.owner)).2=true):Inv ((S.fa id p (S.chain p.owner)).1.leave id p (S.chain p.owner)):=by
 unfold Cs.fa at hw ⊢;split at hw;·cases hw
 next i=>
 rw[bJ i];dsimp only at hw ⊢;split at hw;·cases hw
 next hf=>
 rw[bJ hf];dsimp only;have hf:(fQ S.sl.bK).2.2=0:=by simpa using hf
 obtain⟨a,n,_,he⟩:=x4 hf;rw[he];dsimp only;have B:=(cT.1 n).1;have d:=h.own _ _ hp;have D:=l5 h.wf d;have j:∀g∈c8 S.tree p.owner,cJ S.sl.used g+1<=db S.sl.used g:=by
  intro g o;have:=(not_exists.1 (λc=>i (sK.2 c))) g;simp only[gj,not_and,Int.not_le]at this;have:=this o;omega
 have s:df S.sl.used (S.chain p.owner) 1=(dt S.sl.used (c8 S.tree p.owner) 1, -1,0):=by
  by_cases t:(df S.sl.used (S.chain p.owner) 1).2.2=0;·exact(th t).2.1
  ·obtain⟨g,o,_,_,C⟩:=ti (tj h.wf d ⟨bO,bO⟩) t;have:=j g o;omega
 rw[s];have m:∀q f,S.bz.pg f=some q->q.place=2->q.at_=(a:Int)->(2:Int)≠0->f=id:=by
  intro q f l v w _;have:=(h.sl.taken a).2 ⟨f,q,l,v,w⟩;rw[n]at this;cases this
 rw[h.ct.put_eq hp ⟨bO,bO,bA,λc=>absurd c bO⟩ m];have y:=h.ct.dP hp (pl:=2) (a:=a) ⟨bO,bO,bA,λc=>absurd c bO⟩ m;have k:∀x,x≠id->(S.bz.dP id p 2 a).pg x=S.bz.pg x:=λx hx=>c9 _ _ hx;have z:(By.wr (S.sl.bK.set a true).length S.sl.cG a (S.text p)).1.length=16*S.sl.bK.length:=by
  rw[dA];exact By.B0 h.sl.len _
 unfold Cs.leave;dsimp only;refine⟨⟨h.wf,h.gl,y,λx r b=>?_,h.fr.di h.ct h.wf bO hp h1 (h.own _ _ hp) rfl k (λq l=>?_),?_,h.eo.drop id,λx g=>?_,?_,λx r b=>?_,h.rE,h.ids⟩,λx r b=>?_⟩
 ·rcases kC b with⟨rfl,rfl⟩|⟨_,b⟩
  ·show S.live p.owner=true;exact h.own _ _ hp
  ·exact h.own _ _ b
 ·rw[iW,bM rfl]at l;rw[<- cQ l];show(2:Int)≠1;decide
 ·exact h.sl.pS (T':=S.bz.dP id p 2 a) h.ct h.wf hp (by rw[h1];decide) rfl k (q:=p.to 2 a) (by rw[iW,bM rfl]) rfl d rfl n j z
 ·show(∃e∈(iT S.bY id).1,e.id=x/\e.group=g)↔∃r,(S.bz.dP id p 2 a).pg x=some r/\r.place=1/\r.owner=g;rw[Iw h.eo,h.gen,iW];by_cases hx:x=id
  ·rw[bM hx];refine⟨λc=>absurd hx c.1,?_⟩;rintro⟨r,b,e,_⟩;rw[<- cQ b]at e;have e:(2:Int)=1:=e;omega
  ·rw[bJ hx];exact⟨λc=>c.2,λc=>⟨hx,c⟩⟩
 ·show(dx S.log p.owner).1.length=64;rw[Ix];exact h.log
 ·rcases kC b with⟨rfl,rfl⟩|⟨_,b⟩
  ·exact λu=>absurd A (by have:0<=p.kf:=u;omega)
  ·exact h.kb _ _ b
 ·rcases kC b with⟨rfl,rfl⟩|⟨_,b⟩
  ·exact λ_=>by show(2:Int)≠0;decide
  ·exact h.anon _ _ b
def tl{id:Int}(ho:(S.out id).2=false):(S.out id).1=S:=by
 unfold Cs.out at ho ⊢;dsimp only at ho ⊢;split at ho;·cases ho
 ·next b=>
  rw[bJ b];split at ho;·cases ho
  ·next a=>rw[bJ a]
def x7(id:Int)(p q:Pg)(b:S.bz.pg id=some q):∃a,(S.clean id p).bz.pg id=some a/\a.place=q.place/\a.at_=q.at_/\a.kf=q.kf/\a.ki=q.ki/\a.owner=q.owner/\a.refs=q.refs:=by
 unfold Cs.clean;split
 ·show ∃a,(S.bz.mark id false).1.pg id=some a/\_;unfold TS.mark;rw[b];exact⟨_,l6 _ _ _,rfl,rfl,rfl,rfl,rfl,rfl⟩
 ·exact⟨q,b,rfl,rfl,rfl,rfl,rfl,rfl⟩
def vp(id:Int)(p:Pg):(S.clean id p).tree=S.tree/\(S.clean id p).fr=S.fr/\(S.clean id p).sl=S.sl/\(S.clean id p).bY=S.bY/\(S.clean id p).log=S.log/\(S.clean id p).kept=S.kept/\(S.clean id p).guards=S.guards:=by
 unfold Cs.clean;split<;>exact⟨rfl,rfl,rfl,rfl,rfl,rfl,rfl⟩
def Inv.out(h:Inv S){id:Int}{p:Pg}(hp:S.bz.pg id=some p)(h1:p.place=1):Inv (S.out id).1:=by
 cases ho:(S.out id).2 with
 |false=>rw[tl ho];exact h
 |true=>
  unfold Cs.out at ho ⊢;rw[h.bH hp]at ho ⊢;dsimp only at ho ⊢;by_cases a:0<=p.kf
  ·rw[bM a];dsimp only;have b:=h.clean id p;obtain⟨q,i,d,e,f,r,g,s⟩:=x7 id p p hp;obtain⟨c,j,k,l,m,n,o⟩:=vp (S:=S) id p;have:=b.rG i (by rw[d,h1]) (by rw[f];exact a);have el:∀S':Cs,S'.leave id q ((S.clean id p).chain q.owner)=S'.leave id p (S.chain p.owner):=by
    intro S';unfold Cs.leave Cs.chain;rw[e,g,c]
   rw[el]at this;exact this
  ·rw[bJ a]at ho ⊢;split at ho;·next hw=>rw[bM hw];exact h.fa hp h1 bA hw
   ·cases ho
def VD{id:Int}(ho:(S.out id).2=true):(S.out id).1.bY=(iT S.bY id).1:=by
 unfold Cs.out at ho ⊢;dsimp only at ho ⊢;split
 ·show(iT (S.clean id _).bY id).1=_;rw[(vp id _).2.2.2.1]
 ·next b=>
  rw[bJ b]at ho;split
  ·show(iT (S.fa id _ _).1.bY id).1=_;congr 1;unfold Cs.fa;split;·rfl
   ·dsimp only;split<;>rfl
  ·next a=>rw[bJ a]at ho;cases ho
def x8{R:List dz}{gs:bU}{id:Int}(h:id∈iU R gs):∃e∈R,e.id=id/\e.group∈gs:=by
 unfold iU at h;obtain⟨a,_,h⟩:=A3.1 h;obtain⟨e,he,rfl⟩:=e4.1 h;rw[fO,dG]at he;exact⟨e,he.1,rfl,by simpa using he.2.1⟩
def tm{held:Int->Bool}:∀(l:bU) {S:Cs},(pass held l S).2=false->(pass held l S).1=S
 |[],_,_=>rfl
 |id::l,S,h=>by
  unfold pass at h ⊢;split;·next a=>rw[bM a]at h;exact tm l h
  ·next a=>
   rw[bJ a]at h;dsimp only at h ⊢;split;·next ho=>rw[bM ho]at h;cases h
   ·next ho=>
    rw[bJ ho]at h;have ho:(S.out id).2=false:=by simpa using ho
    rw[tl ho]at h ⊢;exact tm l h
def x9{held:Int->Bool}:∀(l:bU) {S:Cs},(pass held l S).2=true->∃id,id∈l/\held (S.bz.get id).1.owner=false/\(S.out id).2=true/\(pass held l S).1=(S.out id).1
 |[],_,h=>by cases h
 |id::l,S,h=>by
  unfold pass at h ⊢;split
  ·next a=>
   rw[bM a]at h;obtain⟨x,h1,b⟩:=x9 l h;exact⟨x,fI _ h1,b⟩
  ·next a=>
   rw[bJ a]at h;dsimp only at h ⊢;split;·next ho=>exact⟨id,fj ..,by simpa using a,ho,rfl⟩
   ·next ho=>
    rw[bJ ho]at h;have ho:(S.out id).2=false:=by simpa using ho
    rw[tl ho]at h ⊢;obtain⟨x,h1,b⟩:=x9 l h;exact⟨x,fI _ h1,b⟩
def B6{t:Int}{gs:bU}{all:Bool}(h:(S.cO t gs all).2=false):(S.cO t gs all).1=S:=by
 unfold Cs.cO at h ⊢;split;·rfl
 ·next c=>
  rw[bJ c]at h;dsimp only at h ⊢;split;·next a=>rw[bM a]at h;cases h
  ·next a=>
   rw[bJ a]at h;have a:=tm _ (by simpa using a);split
   ·next b=>
    rw[bM b]at h;rw[tm _ h,a]
   ·exact a
def B7{t:Int}{gs:bU}{all:Bool}(h:(S.cO t gs all).2=true):S.live t=true/\∃id,id∈iU S.bY gs/\hg (S.held t eH.min) (S.bz.get id).1.owner=false/\(S.out id).2=true/\(S.cO t gs all).1=(S.out id).1:=by
 unfold Cs.cO at h ⊢;split;·next c=>rw[bM c]at h;cases h
 ·next c=>
  rw[bJ c]at h;refine⟨by simpa using c,?_⟩;dsimp only at h ⊢;split
  ·next a=>
   obtain⟨id,h1,b,d,e⟩:=x9 _ a;rw[uI]at b;exact⟨id,h1,b.1,d,e⟩
  ·next a=>
   rw[bJ a]at h;have a:=tm _ (by simpa using a);split
   ·next f=>
    rw[bM f]at h;rw[a]at h ⊢;obtain⟨id,h1,b,d,e⟩:=x9 _ h;exact⟨id,h1,b,d,e⟩
   ·next f=>rw[bJ f]at h;cases h
def Inv.jA(h:Inv S){gs:bU}{id:Int}(hm:id∈iU S.bY gs):∃p,S.bz.pg id=some p/\p.place=1/\p.owner∈gs:=by
 obtain⟨e,he,a,b⟩:=x8 hm;obtain⟨p,hp,h1,c⟩:=(h.gen id e.group).1 ⟨e,he,a,rfl⟩;exact⟨p,hp,h1,by rw[c];exact b⟩
def Inv.cO(h:Inv S)(t:Int)(gs:bU)(all:Bool):Inv (S.cO t gs all).1:=by
 cases b:(S.cO t gs all).2 with
 |false=>rw[B6 b];exact h
 |true=>
  obtain⟨_,id,h1,_,_,c⟩:=B7 b;obtain⟨p,hp,a,_⟩:=h.jA h1;rw[c];exact h.out hp a
def Inv.cW(h:Inv S)(t:Int):Inv (S.cW t).1:=h.cO t _ _
def Iy(h:Inv S){t:Int}{gs:bU}{all:Bool}(d:(S.cO t gs all).2=true):(S.cO t gs all).1.bY.length<S.bY.length:=by
 obtain⟨_,id,h1,_,b,c⟩:=B7 d;obtain⟨e,he,a,_⟩:=x8 h1;rw[c,VD b];exact Vx ((VA h.eo).2 ⟨e,he,a⟩)
def Inv.dd{t:Int}{gs:bU}:∀(n:Nat) {S:Cs},Inv S->Inv (dd t gs n S).1
 |0,_,h=>h
 |n+1,_,h=>Inv.dd n (h.cO t gs false)
def Inv.cq{t:Int}:∀(l:List (Int×Int)) {S:Cs},Inv S->Inv (cq t l S).1
 |[],_,h=>h
 |(_,k)::l,_,h=>Inv.cq l (Inv.dd k.toNat h)
def Inv.dE{t:Int}:∀(n:Nat) {S:Cs},Inv S->Inv (dE t n S).1
 |0,_,h=>h
 |n+1,S,h=>by
  unfold Kc.dE;dsimp only;split;·exact Inv.dE n (h.cW t)
  ·exact h.cW t
def Inv.shrink(h:Inv S)(t n:Int):Inv (S.shrink t n).1:=by
 unfold Cs.shrink;split;·exact h
 ·exact Inv.dE _ (Inv.cq _ h)
end Go.Kc
namespace Go.Kc
open Go Go.Kt Go.Sp
variable{S:Cs}
inductive et:Cs->Cs->Prop
 |refl (S:Cs):et S S
 |step {S S':Cs} {id:Int} {p:Pg} (hp:S.bz.pg id=some p) (h1:p.place=1) (ho:(S.out id).2=true) (h:et (S.out id).1 S'):et S S'
def et.trans{A B C:Cs}(h:et A B)(h':et B C):et A C:=by
 induction h with
 |refl=>exact h'
 |step hp h1 ho _ a=>exact .step hp h1 ho (a h')
def et.cO(h:Inv S)(t:Int)(gs:bU)(all:Bool):et S (S.cO t gs all).1:=by
 cases b:(S.cO t gs all).2 with
 |false=>rw[B6 b];exact .refl S
 |true=>
  obtain⟨_,id,h1,_,c,d⟩:=B7 b;obtain⟨p,hp,a,_⟩:=h.jA h1;rw[d];exact .step hp a c (.refl _)
def et.inv{S':Cs}(h:et S S')(a:Inv S):Inv S':=by
 induction h with
 |refl=>exact a
 |step hp h1 ho _ b=>exact b (a.out hp h1)
structure Kept(S S':Cs):Prop where
 tree:S'.tree=S.tree
 guards:S'.guards=S.guards
 bP:S'.files.bP=S.files.bP
 next:S'.bz.next=S.bz.next
 bK:S'.fr.bK.length=S.fr.bK.length/\S'.sl.bK.length=S.sl.bK.length
 bH:∀id p,S.bz.pg id=some p->∃q,S'.bz.pg id=some q/\q.kf=p.kf/\q.ki=p.ki/\q.owner=p.owner/\q.refs=p.refs/\(p.place≠1->q=p)
 none_:∀id,S.bz.pg id=none->S'.bz.pg id=none
 lim:∀g,db S'.fr.used g=db S.fr.used g/\db S'.sl.used g=db S.sl.used g
def Kept.refl(S:Cs):Kept S S:=⟨rfl,rfl,rfl,rfl,⟨rfl,rfl⟩,λ_ p h=>⟨p,h,rfl,rfl,rfl,rfl,λ_=>rfl⟩,λ_ h=>h,λ_=>⟨rfl,rfl⟩⟩
def Kept.trans{A B C:Cs}(h:Kept A B)(h':Kept B C):Kept A C:=by
 refine⟨h'.tree.trans h.tree,h'.guards.trans h.guards,h'.bP.trans h.bP,h'.next.trans h.next,⟨h'.bK.1.trans h.bK.1,h'.bK.2.trans h.bK.2⟩,λid p hp=>?_,λid d=>h'.none_ id (h.none_ id d),λg=>⟨(h'.lim g).1.trans (h.lim g).1,(h'.lim g).2.trans (h.lim g).2⟩⟩;obtain⟨q,f,b,c,a3,a4,a5⟩:=h.bH id p hp;obtain⟨r,i,b1,b2,b3,b4,b5⟩:=h'.bH id q f;refine⟨r,i,b1.trans b,b2.trans c,b3.trans a3,b4.trans a4,λa=>?_⟩;have e:=a5 a;rw[b5 (by rw[e];exact a),e]
def B8{C:List ei}(d:C.length=64)(l:bU)(n g:Int):db (fJ C l n).1 g=db C g:=by
 cases a:iH l n with
 |false=>unfold fJ;rw[a];rfl
 |true=>
  by_cases b:∃x∈l,cJ C x<n;·rw[B5 a b]
  ·rw[rD a (λx hx=>Int.not_lt.1 (λc=>b ⟨x,hx,c⟩))];have:=l4.1 a;exact tf d this.1 this.2.1
def VE{C:List ei}(c:C.length=64)(l:bU)(n g:Int):db (df C l n).1 g=db C g:=by
 cases a:iH l n with
 |false=>unfold df;rw[a];rfl
 |true=>
  by_cases b:(df C l n).2.2=0
  ·rw[(th b).2.1];have:=l4.1 a;exact tf c this.1 this.2.1
  ·obtain⟨x,_,he,_⟩:=ti a b;rw[he]
def od(T:TS)(id:Int)(d:Bool):(T.mark id d).1.next=T.next/\(T.mark id d).1.files=T.files/\(T.mark id d).1.cV=T.cV/\∀x,(T.mark id d).1.pg x=(T.pg x).map λp=>if x=id then {p with e6:=d} else p:=by
 unfold TS.mark;cases hp:T.pg id with
 |none=>
  refine⟨rfl,rfl,rfl,λx=>?_⟩;by_cases e:x=id;·subst e;simp[hp]
  ·cases T.pg x<;>simp[e]
 |some p=>
  refine⟨rfl,rfl,rfl,λx=>?_⟩;show cK T.pg id (some _) x=_;by_cases e:x=id;·subst e;rw[l6,hp];simp
  ·rw[c9 _ _ e];cases T.pg x<;>simp[e]
def Iz{id:Int}{h:Pg}(f:S.bz.pg id=some h)(h1:h.place=1)(p:Pg):Kept S (S.clean id p):=by
 obtain⟨i,c,d,k,l,m,j⟩:=vp (S:=S) id p;refine⟨i,j,?_,?_,⟨by rw[c],by rw[d]⟩,λx q a=>?_,λx hx=>?_,λg=>by rw[c,d];exact⟨rfl,rfl⟩⟩
 ·unfold Cs.clean;split
  ·show(np _ _ _).1.bP=_;unfold np;split;·rfl
   ·split<;>rfl
  ·rfl
 ·unfold Cs.clean;split;·exact(od _ _ _).1
  ·rfl
 ·unfold Cs.clean;split
  ·show ∃r,(S.bz.mark id false).1.pg x=some r/\_;rw[(od _ _ _).2.2.2,a];refine⟨_,rfl,?_,?_,?_,?_,λb=>?_⟩;·split<;>rfl
   ·split<;>rfl
   ·split<;>rfl
   ·split<;>rfl
   ·refine bJ (λe=>?_);subst e;rw[f]at a;rw[<- cQ a]at b;exact b h1
  ·exact⟨q,a,rfl,rfl,rfl,rfl,λ_=>rfl⟩
 ·unfold Cs.clean;split
  ·show(S.bz.mark id false).1.pg x=none;rw[(od _ _ _).2.2.2,hx];rfl
  ·exact hx
def Kept.lB{T:TS}{id:Int}{p:Pg}{pl a:Int}(hp:T.pg id=some p)(h1:p.place=1):(∀x q,T.pg x=some q->∃r,(T.dP id p pl a).pg x=some r/\r.kf=q.kf/\r.ki=q.ki/\r.owner=q.owner/\r.refs=q.refs/\(q.place≠1->r=q))/\∀x,T.pg x=none->(T.dP id p pl a).pg x=none:=by
 refine⟨λx q b=>?_,λx hx=>?_⟩
 ·rw[iW];by_cases e:x=id
  ·subst e;rw[hp]at b;have:=cQ b;subst this;exact⟨_,bM rfl,rfl,rfl,rfl,rfl,λc=>absurd h1 c⟩
  ·exact⟨q,by rw[bJ e];exact b,rfl,rfl,rfl,rfl,λ_=>rfl⟩
 ·rw[iW];by_cases e:x=id;·subst e;rw[hp]at hx;cases hx
  ·rw[bJ e];exact hx
def VF(h:Inv S){id:Int}{p:Pg}(hp:S.bz.pg id=some p)(h1:p.place=1):Kept S (S.out id).1:=by
 cases ho:(S.out id).2 with
 |false=>rw[tl ho];exact .refl S
 |true=>
  unfold Cs.out at ho ⊢;rw[h.bH hp]at ho ⊢;dsimp only at ho ⊢;by_cases k:0<=p.kf
  ·rw[bM k];dsimp only;refine(Iz hp h1 p).trans ?_;obtain⟨q,d,f,j,o,r,s,t⟩:=x7 id p p hp;have e:=h.clean id p;rw[e.l8 d];have b:=Kept.lB (pl:=0) (a:=0) d (by rw[f,h1]);refine⟨rfl,rfl,rfl,rfl,⟨?_,rfl⟩,b.1,b.2,λg=>⟨?_,rfl⟩⟩;·exact pP _ _
   ·exact B8 e.fr.used.len _ _ _
  ·rw[bJ k]at ho ⊢;split at ho
   ·next hw=>
    rw[bM hw];dsimp only;unfold Cs.fa at hw ⊢;split at hw;·cases hw
    next i=>
    rw[bJ i];dsimp only at hw ⊢;split at hw;·cases hw
    next hf=>
    rw[bJ hf];dsimp only;obtain⟨a,m,_,he⟩:=x4 (by simpa using hf);rw[he];dsimp only;have l:∀q c,S.bz.pg c=some q->q.place=2->q.at_=(a:Int)->(2:Int)≠0->c=id:=by
     intro q c d f j _;have:=(h.sl.taken a).2 ⟨c,q,d,f,j⟩;rw[m]at this;cases this
    rw[h.ct.put_eq hp ⟨bO,bO,bA,λn=>absurd n bO⟩ l];have b:=Kept.lB (pl:=2) (a:=a) hp h1;refine⟨rfl,rfl,rfl,rfl,⟨pP _ _,dA⟩,b.1,b.2,λg=>⟨B8 h.fr.used.len _ _ _,VE h.sl.used.len _ _ _⟩⟩
   ·cases ho
def et.kept{S':Cs}(h:et S S')(a:Inv S):Kept S S':=by
 induction h with
 |refl S=>exact .refl S
 |step hp h1 ho _ b=>exact(VF a hp h1).trans (b (a.out hp h1))
def IA{C:List ei}(a:C.length=64){l:bU}(d:∀g∈l,0<=g/\g<64)(e:l.Nodup)(n:Int):dt (dt C l n) l (-n)=C:=by
 apply g6;intro i;rcases gS i 64 with f|f
 ·have h1:(dt (dt C l n) l (-n)).length=64:=by rw[nw,nw];exact a
  have b:fx (i:Int)=true:=iJ.2 ⟨bA,bA⟩;have:=rC (-n) l (C:=dt C l n) (h:=(i:Int)) (by rw[nw];exact a) d e b;rw[rC n l a d e b]at this;rw[dk]at this;rw[dL,dL];simp only[dK]at this;rw[dL,dL]at this;simp only[mB]at this;rw[this];split
  ·next hm=>
   congr 1;generalize C[i]=c;cases c;simp only[ei.mk.injEq,and_true];omega
  ·rfl
 ·rw[fH (by rw[nw,nw];omega),fH bA]
structure nx(S S0:Cs)(g:Int)(a:Nat)(r:Cs×Int×Int×Int):Prop where
 outs:et S S0
 free:S0.fr.bK[a]?=some false
 least:∀j,j<a->S0.fr.bK[j]?=some true
 lim:∀x∈c8 S.tree g,cJ S0.fr.used x+1<=db S0.fr.used x
 eq:r=({S0 with fr:={S0.fr with bK:=S0.fr.bK.set a true,used:=dt S0.fr.used (c8 S.tree g) 1}},(a:Int), -1,0)
structure vq(S S0:Cs)(g t:Int)(r:Cs×Int×Int×Int):Prop where
 outs:et S S0
 no:(S0.cW t).2=false
 H4:(t=0/\∀b∈S0.fr.bK,b=true)\/(t∈c8 S.tree g/\db S0.fr.used t<cJ S0.fr.used t+1)
 eq:r=(S0, -1,t,12)
def fM{g:Int}:∀(n:Nat) {S:Cs},Inv S->S.live g=true->S.bY.length<n->(∃S0 a,nx S S0 g a (take g n S))\/∃S0 t,vq S S0 g t (take g n S):=by
 intro n;induction n with
 |zero=>intro S _ _ h;omega
 |succ n v=>
  intro S h l w;have i:=l5 h.wf l;have q:=tj h.wf l (n:=1) ⟨bO,bO⟩;have full:∀t:Int,((t=0/\∀b∈S.fr.bK,b=true)\/(t∈c8 S.tree g/\db S.fr.used t<cJ S.fr.used t+1))->
    (∃S0 a,nx S S0 g a (if(S.cW t).2 then take g n (S.cW t).1 else((S.cW t).1, -1,t,12)))\/∃S0 m,vq S S0 g m (if(S.cW t).2 then take g n (S.cW t).1 else((S.cW t).1, -1,t,12)):=by
   intro t u;cases he:(S.cW t).2 with
   |false=>
    refine .inr ⟨S,t,.refl S,he,u,?_⟩;have:(S.cW t).1=S:=B6 he;rw[this];rfl
   |true=>
    have s:=h.cW t;have ho:et S (S.cW t).1:=et.cO h t _ _;have j:=ho.kept h;have d:=Iy h he;have o:(S.cW t).1.live g=true:=by unfold Cs.live;rw[j.tree];exact l
    rcases v s o (by have:(S.cW t).1.bY.length<S.bY.length:=d;omega)with⟨S0,a,k⟩|⟨S0,m,k⟩
    ·refine .inl ⟨S0,a,ho.trans k.outs,k.free,k.least,?_,?_⟩;·have:=k.lim;rw[j.tree]at this;exact this
     ·have:=k.eq;rw[j.tree]at this;simpa using this
    ·refine .inr ⟨S0,m,ho.trans k.outs,k.no,?_,by simpa using k.eq⟩;have:=k.H4;rw[j.tree]at this;exact this
  unfold take;dsimp only;by_cases e:(df S.fr.used (S.chain g) 1).2.2=0
  ·rw[bM e];obtain⟨_,he,hle⟩:=th e;by_cases hp:(fQ S.fr.bK).2.2=0
   ·rw[bM hp];obtain⟨a,r,c,p⟩:=x4 hp;refine .inl ⟨S,a,.refl S,r,c,λx hx=>hle x hx bO,?_⟩;rw[he,p];rfl
   ·rw[bJ hp];have f:(fJ (df S.fr.used (S.chain g) 1).1 (S.chain g) 1).1=S.fr.used:=by
     rw[he];show(fJ (dt S.fr.used (c8 S.tree g) 1) (c8 S.tree g) 1).1=_;rw[rD q (λx hx=>?_)];·exact IA h.fr.used.len i.1 i.2.1 1
     ·rw[oc h.fr.used.len i.1 i.2.1,bM hx];have:=(h.fr.used.of x).1.1;unfold cJ;omega
    rw[f];exact full 0 (.inl ⟨rfl,(B3 hp).1⟩)
  ·rw[bJ e];obtain⟨x,hx,he,_,d⟩:=ti q e;rw[show df S.fr.used (S.chain g) 1=(S.fr.used,x,22)from he];exact full x (.inr ⟨hx,d⟩)
def Cs.fM(h:Inv S){g:Int}(b:S.live g=true):(∃S0 a,nx S S0 g a (S.take g))\/∃S0 t,vq S S0 g t (S.take g):=Kc.fM _ h b bA
def hZ.more{T T':TS}{tree:List G}{s:eJ}{pl:Int}(l:ha T)(h:hZ T tree s pl)(k:pl≠0)(t:T'.next=T.next+1)(c:∀x,x≠T.next->T'.pg x=T.pg x){p:Pg}(hp:T'.pg T.next=some p)(m:p.place=0):hZ T' tree s pl:=by
 have j:T.pg T.next=none:=by
  cases b:T.pg T.next with
  |none=>rfl
  |some q=>have:=l.ids _ _ b;omega
 have key:∀is:Pg->Bool,hY T' pl is=hY T pl is:=by
  intro is;unfold hY;have e:T'.next.toNat=T.next.toNat+1:=by have:=l.next;omega
  rw[e,rA];have f:((T.next.toNat:Nat):Int)=T.next:=by have:=l.next;omega
  have:l7 T' pl is T.next.toNat=false:=by unfold l7;rw[f,hp];simp[m,Ne.symm k]
  rw[this];show hj _ _+0=_;rw[lu];exact B1 (λi r=>by unfold l7;rw[c (i:Int) bA])
 refine⟨h.fq,h.len,h.used,λa=>?_,λg o n=>by rw[h.use g o n,key],by rw[h.all,key]⟩;rw[h.taken a];constructor
 ·rintro⟨x,q,b,d,f⟩;have hx:x≠T.next:=λe=>by rw[e,j]at b;cases b
  exact⟨x,q,by rw[c x hx];exact b,d,f⟩
 ·rintro⟨x,q,b,d,f⟩;by_cases hx:x=T.next
  ·subst hx;rw[hp]at b;rw[<- cQ b,m]at d;exact absurd d.symm k
  ·rw[c x hx]at b;exact⟨x,q,b,d,f⟩
def fX(T:TS)(kf ki:Int):Int×Int:=if kf<0 then(-1,T.next)else(kf,ki)
def IB(T:TS){kf ki o:Int}(c:0<=T.next/\T.next<16777216)(b:kf<0\/T.of (kf,ki)<0):
  T.make kf ki o=(⟨cK T.pg T.next (some ⟨(fX T kf ki).1,(fX T kf ki).2,0,0,o,0,0,false,false⟩),if kf<0 then T.files else cK T.files (kf,ki) (some T.next),T.cV,T.next+1⟩,T.next,0):=by
 have hw:i64.wrap (T.next+1)=T.next+1:=cH bA bA;unfold TS.make fX;by_cases a:kf<0
 ·rw[bM a,bM a,bM a];unfold TS.iw;rw[hw]
 ·rw[bJ a,bJ a,bJ a,cM];unfold TS.iw;dsimp only;rw[hw]
def Inv0.make(h:Inv0 S)(C:S.bz.next<16777216){kf ki o:Int}(B:S.live o=true)(w:kf<0\/(S.bz.of (kf,ki)<0/\ed S.files (kf,ki)=true)):Inv0 {S with bz:=(S.bz.make kf ki o).1} :=by
 rw[IB _ ⟨h.ct.next,C⟩ (w.imp_right And.left)];dsimp only;generalize s:(⟨cK S.bz.pg S.bz.next (some ⟨(fX S.bz kf ki).1,(fX S.bz kf ki).2,0,0,o,0,0,false,false⟩),if kf<0 then S.bz.files else cK S.bz.files (kf,ki) (some S.bz.next),S.bz.cV,S.bz.next+1⟩:TS)=T';have d:∀x,T'.pg x=if x=S.bz.next then some ⟨(fX S.bz kf ki).1,(fX S.bz kf ki).2,0,0,o,0,0,false,false⟩else S.bz.pg x:=by subst s;exact λx=>rfl
 have A:T'.cV=S.bz.cV:=by subst s;rfl
 have u:T'.next=S.bz.next+1:=by subst s;rfl
 have y:T'.files=if kf<0 then S.bz.files else cK S.bz.files (kf,ki) (some S.bz.next):=by subst s;rfl
 clear s;have k:S.bz.pg S.bz.next=none:=by
  cases b:S.bz.pg S.bz.next with
  |none=>rfl
  |some q=>have:=h.ct.ids _ _ b;omega
 have j:∀x,x≠S.bz.next->T'.pg x=S.bz.pg x:=λx hx=>by rw[d,bJ hx]
 have v:T'.pg S.bz.next=some ⟨(fX S.bz kf ki).1,(fX S.bz kf ki).2,0,0,o,0,0,false,false⟩:=by rw[d,bM rfl]
 refine {h with ct:=⟨by rw[u];have:=h.ct.next;omega,λx q b=>?_,λpl a x=>?_,λi m x=>?_,λx q b=>?_⟩,own:=λx q b=>?_,fr:=h.fr.more h.ct bO u j v rfl,sl:=h.sl.more h.ct bO u j v rfl,gen:=λx g=>?_,kb:=λx q b=>?_,ids:=by show T'.next<=_;rw[u];omega}
 ·rw[u];rw[d]at b;split at b;·next e=>subst e;have:=h.ct.next;omega
  ·have:=h.ct.ids _ _ b;omega
 ·rw[A,h.ct.spot];constructor
  ·rintro⟨q,b,e⟩;exact⟨q,by rw[j x (λe=>by rw[e,k]at b;cases b)];exact b,e⟩
  ·rintro⟨q,b,c,f,r⟩;rw[d]at b;split at b
   ·rw[<- cQ b]at c;exact absurd c.symm r
   ·exact⟨q,b,c,f,r⟩
 ·rw[y];by_cases l:kf<0
  ·rw[bM l,h.ct.file];constructor
   ·rintro⟨q,b,e⟩;exact⟨q,by rw[j x (λe=>by rw[e,k]at b;cases b)];exact b,e⟩
   ·rintro⟨q,b,c,f,r⟩;rw[d]at b;split at b
    ·rw[<- cQ b]at c;have c:(fX S.bz kf ki).1=i:=c;unfold fX at c;rw[bM l]at c;have c:(-1:Int)=i:=c;omega
    ·exact⟨q,b,c,f,r⟩
  ·rw[bJ l];have z:S.bz.files (kf,ki)=none:=by
    rcases w with n|⟨n,_⟩
    ·exact absurd n l
    ·unfold TS.of at n;cases hf:S.bz.files (kf,ki)with
     |none=>rfl
     |some x=>
      rw[hf]at n;obtain⟨q,b,_⟩:=(h.ct.file kf ki x).1 hf;have:=h.ct.ids _ _ b;simp at n;omega
   unfold cK;by_cases e:(i,m)=(kf,ki)
   ·rw[bM e];have e:i=kf/\m=ki:=by simpa using e
    obtain⟨rfl,rfl⟩:=e;constructor
    ·intro hx;have:=cQ hx;subst this;refine⟨_,v,?_,?_,bA⟩;·show(fX S.bz i m).1=i;unfold fX;rw[bJ l]
     ·show(fX S.bz i m).2=m;unfold fX;rw[bJ l]
    ·rintro⟨q,b,c,f,r⟩;rw[d]at b;split at b;·next e=>rw[e]
     ·have:=(h.ct.file i m x).2 ⟨q,b,c,f,r⟩;rw[z]at this;cases this
   ·rw[bJ e,h.ct.file];constructor
    ·rintro⟨q,b,e⟩;exact⟨q,by rw[j x (λe=>by rw[e,k]at b;cases b)];exact b,e⟩
    ·rintro⟨q,b,c,f,r⟩;rw[d]at b;split at b
     ·rw[<- cQ b]at c f;have c:(fX S.bz kf ki).1=i:=c;have f:(fX S.bz kf ki).2=m:=f;unfold fX at c f;rw[bJ l]at c f;exact absurd (by rw[<- c,<- f]) e
     ·exact⟨q,b,c,f,r⟩
 ·rw[d]at b;split at b;·rw[<- cQ b];exact⟨⟨e7 _,(by show(0:Int)<=2;decide),e7 _,λ_=>rfl⟩,e7 _⟩
  ·exact h.ct.pl _ _ b
 ·rw[d]at b;split at b;·rw[<- cQ b];exact B
  ·exact h.own _ _ b
 ·show _↔∃p,T'.pg x=some p/\_;rw[h.gen];constructor
  ·rintro⟨q,b,e⟩;exact⟨q,by rw[j x (λe=>by rw[e,k]at b;cases b)];exact b,e⟩
  ·rintro⟨q,b,c,f⟩;rw[d]at b;split at b;·rw[<- cQ b]at c;cases c
   ·exact⟨q,b,c,f⟩
 ·intro t;rw[d]at b;split at b
  ·rw[<- cQ b]at t ⊢;have t:0<=(fX S.bz kf ki).1:=t;refine⟨?_,by show(0:Int)≠2;decide⟩;show ed S.files ((fX S.bz kf ki).1,(fX S.bz kf ki).2)=true;unfold fX at t ⊢;by_cases l:kf<0;·rw[bM l]at t;have t:(0:Int)<= -1:=t;omega
   ·rw[bJ l];rcases w with n|⟨_,n⟩
    ·exact absurd n l
    ·exact n
  ·exact h.kb _ _ b t
def VG(h:Inv0 S){id:Int}(a:∀p,S.bz.pg id=some p->p.place≠1):e9 S.bY id=none:=by
 rw[ta h.eo.cX];rintro e he rfl;obtain⟨p,hp,h1,_⟩:=(h.gen e.id e.group).1 ⟨e,he,rfl,rfl⟩;exact a p hp h1
def VH{T:TS}{id o:Int}{p:Pg}(hp:T.pg id=some p):T.own id o=(T.cI id {p with owner:=o},0):=by unfold TS.own;rw[hp]
def Inv0.toFrame(h:Inv0 S){id g:Int}{p:Pg}(hp:S.bz.pg id=some p)(f:p.place=0\/(p.place=2/\p.owner=g))(s:S.live g=true){a:Nat}(v:S.fr.bK[a]?=some false)(t:∀x∈c8 S.tree g,cJ S.fr.used x+1<=db S.fr.used x)(text:List UInt8)(dZ:Bool):
  Inv0 (Cs.place {S with fr:={S.fr with bK:=S.fr.bK.set a true,used:=dt S.fr.used (c8 S.tree g) 1},sl:=if p.place=2 then S.sl.di p.at_ (c8 S.tree g)else S.sl} id a g text dZ)/\
  ((S.bz.own id g).1.put id 1 a).1=(S.bz.cI id {p with owner:=g}).dP id {p with owner:=g} 1 a:=by
 have j:p.place≠1:=by rcases f with e|⟨e,_⟩<;>rw[e]<;>decide
 have m:ha (S.bz.cI id {p with owner:=g}):=h.ct.set hp rfl rfl rfl rfl (h.ct.pl _ _ hp).2;have r:(S.bz.cI id {p with owner:=g}).pg id=some {p with owner:=g} :=l6 _ _ _;have u:∀q x,S.bz.pg x=some q->q.place=1->q.at_≠(a:Int):=by
  intro q x b i k;have:=(h.fr.taken a).2 ⟨x,q,b,i,k⟩;rw[v]at this;cases this
 have n:∀q x,(S.bz.cI id {p with owner:=g}).pg x=some q->q.place=1->q.at_=(a:Int)->(1:Int)≠0->x=id:=by
  intro q x b i k _;rcases kC b with⟨e,_⟩|⟨_,b⟩
  ·exact e
  ·exact absurd k (u q x b i)
 have heq:((S.bz.own id g).1.put id 1 a).1=(S.bz.cI id {p with owner:=g}).dP id {p with owner:=g} 1 a:=by
  rw[VH hp,m.put_eq r ⟨bO,bO,bA,λl=>absurd l bO⟩ n]
 refine⟨?_,heq⟩;have A:=m.dP r (pl:=1) (a:=a) ⟨bO,bO,bA,λl=>absurd l bO⟩ n;have c:∀x,((S.bz.cI id {p with owner:=g}).dP id {p with owner:=g} 1 a).pg x=if x=id then some {p with owner:=g,place:=1,at_:=a} else S.bz.pg x:=by
  intro x;rw[iW];by_cases e:x=id;·rw[bM e,bM e];rfl
  ·rw[bJ e,bJ e];exact c9 _ _ e
 have d:∀x,x≠id->((S.bz.cI id {p with owner:=g}).dP id {p with owner:=g} 1 a).pg x=S.bz.pg x:=λx hx=>by rw[c,bJ hx]
 have z:¬ hW id g:=by
  unfold hW;have h1:=h.ct.ids _ _ hp;have C:=h.ids;have D:=nb s;have E:=h.wf.fq;omega
 have w:=VG h (id:=id) (λq b=>by rw[hp]at b;rw[<- cQ b];exact j);unfold Cs.place;rw[heq];refine⟨h.wf,h.gl,A,λx q b=>?_,?_,?_,h.eo.add id g dZ,λx o=>?_,h.log,λx q b=>?_,h.rE,h.ids⟩
 ·rw[c]at b;split at b;·rw[<- cQ b];exact s
  ·exact h.own _ _ b
 ·refine h.fr.pS (T':=(S.bz.cI id {p with owner:=g}).dP id {p with owner:=g} 1 a) h.ct h.wf hp j rfl d (q:={p with owner:=g,place:=1,at_:=a}) (by rw[c,bM rfl]) rfl s rfl v t ?_;show(By.wr (S.fr.bK.set a true).length S.fr.cG a text).1.length=_;rw[dA];exact By.B0 h.fr.len _
 ·show hZ _ _ (if p.place=2 then S.sl.di p.at_ (c8 S.tree g)else S.sl) 2;rcases f with f|⟨f,y⟩
  ·rw[bJ (by rw[f];decide)];refine h.sl.other rfl (λx=>?_);by_cases hx:x=id
   ·subst hx;refine .inr (.inl ⟨λq b=>?_,λq b=>?_⟩);·rw[hp]at b;rw[<- cQ b,f];decide
    ·rw[c,bM rfl]at b;rw[<- cQ b];show(1:Int)≠2;decide
   ·exact .inl (d x hx)
  ·rw[bM f,<- y];rw[<- y]at d c;refine h.sl.di h.ct h.wf bO hp f (h.own _ _ hp) rfl d (λq b=>?_);rw[c,bM rfl]at b;rw[<- cQ b];show(1:Int)≠2;decide
 ·show(∃e∈(jw S.bY id g dZ).1,e.id=x/\e.group=o)↔∃q,((S.bz.cI id {p with owner:=g}).dP id {p with owner:=g} 1 a).pg x=some q/\q.place=1/\q.owner=o;rw[Vz h.eo z w,h.gen,c];by_cases hx:x=id
  ·rw[bM hx];constructor
   ·rintro(⟨_,e⟩|⟨q,b,i,_⟩);·exact⟨_,rfl,rfl,e.symm⟩
    ·rw[hx,hp]at b;rw[<- cQ b]at i;exact absurd i j
   ·rintro⟨q,b,i,k⟩;rw[<- cQ b]at k;exact .inl ⟨hx,k.symm⟩
  ·rw[bJ hx];exact⟨λl=>l.resolve_left (λe=>hx e.1),.inr⟩
 ·rw[c]at b;split at b
  ·rw[<- cQ b];exact λB=>⟨(h.kb _ _ hp B).1,by show(1:Int)≠2;decide⟩
  ·exact h.kb _ _ b
def Inv0.jk{S0:Cs}(h:Inv S)(ho:et S S0){g:Int}(a:S.live g=true):S0.live g=true:=by
 unfold Cs.live;rw[(ho.kept h).tree];exact a
def oe(T:TS){kf ki o:Int}(b:0<=T.next/\T.next<16777216)(a:kf<0\/T.of (kf,ki)<0):(T.make kf ki o).2=(T.next,0)/\(T.make kf ki o).1.next=T.next+1/\
  ∀x,(T.make kf ki o).1.pg x=if x=T.next then some ⟨(fX T kf ki).1,(fX T kf ki).2,0,0,o,0,0,false,false⟩else T.pg x:=by
 rw[IB T b a];exact⟨rfl,rfl,λx=>rfl⟩
def IC{T:TS}{id g a:Int}{p:Pg}{S:Cs}{text:List UInt8}{dZ:Bool}(he:((S.bz.own id g).1.put id 1 a).1=(S.bz.cI id {p with owner:=g}).dP id {p with owner:=g} 1 a)(x:Int):
  (S.place id a g text dZ).bz.pg x=if x=id then some {p with owner:=g,place:=1,at_:=a} else S.bz.pg x:=by
 have _:=T;show(((S.bz.own id g).1.put id 1 a).1).pg x=_;rw[he,iW];by_cases e:x=id;·rw[bM e,bM e];rfl
 ·rw[bJ e,bJ e];exact c9 _ _ e
def rH(h:Inv S)(s:S.bz.next<16777216){g:Int}(p:S.live g=true)(text:List UInt8):
  (∃S0 a,nx S S0 g a (S.take g)/\S.cN g text=(Cs.place {S0 with bz:=(S0.bz.make (-1) 0 g).1,fr:={S0.fr with bK:=S0.fr.bK.set a true,used:=dt S0.fr.used (c8 S0.tree g) 1}} S0.bz.next a g text false,S.bz.next, -1,0)/\
   Inv (S.cN g text).1/\(∀x,(S.cN g text).1.bz.pg x=if x=S.bz.next then some ⟨-1,S.bz.next,1,a,g,0,0,false,false⟩else S0.bz.pg x))\/
  ∃S0 t,vq S S0 g t (S.take g)/\S.cN g text=(S0, -1,t,12):=by
 rcases Cs.fM h p with⟨S0,a,k⟩|⟨S0,t,k⟩
 ·have c:=k.outs.kept h;have l:=k.outs.inv h;have f:S0.live g=true:=Inv0.jk h k.outs p;have i:S0.bz.next<16777216:=by rw[c.next];exact s
  have hm:=oe S0.bz (kf:= -1) (ki:=0) (o:=g) ⟨l.ct.next,i⟩ (.inl bO);have r:=l.toInv0.make i (kf:= -1) (ki:=0) f (.inl bO);have hp:(S0.bz.make (-1) 0 g).1.pg S0.bz.next=some ⟨-1,S0.bz.next,0,0,g,0,0,false,false⟩:=by rw[hm.2.2,bM rfl];rfl
  have m:=r.toFrame (id:=S0.bz.next) (g:=g) hp (.inl rfl) f k.free (by have:=k.lim;rw[<- c.tree]at this;exact this) text false;have b:S.cN g text=(Cs.place {S0 with bz:=(S0.bz.make (-1) 0 g).1,fr:={S0.fr with bK:=S0.fr.bK.set a true,used:=dt S0.fr.used (c8 S0.tree g) 1}} S0.bz.next a g text false,S.bz.next, -1,0):=by
   unfold Cs.cN;rw[k.eq];dsimp only;rw[bJ bO];rw[hm.1,c.next,c.tree]
  have j:∀x,(S.cN g text).1.bz.pg x=if x=S.bz.next then some ⟨-1,S.bz.next,1,a,g,0,0,false,false⟩else S0.bz.pg x:=by
   intro x;rw[b];have:=IC (T:=S0.bz) (S:={S0 with bz:=(S0.bz.make (-1) 0 g).1,fr:={S0.fr with bK:=S0.fr.bK.set a true,used:=dt S0.fr.used (c8 S0.tree g) 1}}) (text:=text) (dZ:=false) m.2 x;refine this.trans ?_;rw[c.next];by_cases e:x=S.bz.next;·rw[bM e,bM e]
   ·rw[bJ e,bJ e,hm.2.2,c.next,bJ e]
  refine .inl ⟨S0,a,k,b,⟨?_,λx q d n=>?_⟩,j⟩;·rw[b];exact m.1
  ·rw[j]at d;split at d;·rw[<- cQ d];show(1:Int)≠0;decide
   ·exact l.anon _ _ d n
 ·refine .inr ⟨S0,t,k,?_⟩;unfold Cs.cN;rw[k.eq];dsimp only;rw[bM bO]
def Inv.cN(h:Inv S)(d:S.bz.next<16777216){g:Int}(c:S.live g=true)(text:List UInt8):Inv (S.cN g text).1:=by
 rcases rH h d c text with⟨S0,a,k,he,b,_⟩|⟨S0,t,k,he⟩
 ·exact b
 ·rw[he];exact k.outs.inv h
def Inv.fresh(h:Inv S)(b:S.bz.next<16777216)(g:Int):Inv (S.fresh g).1:=by
 unfold Cs.fresh;split;·exact h
 ·next a=>exact h.cN b (by simpa using a) _
def Inv.copy(h:Inv S)(c:S.bz.next<16777216)(id g:Int):Inv (S.copy id g).1:=by
 unfold Cs.copy;dsimp only;split;·exact h
 ·next a=>
  have a:S.live g=true:=by
   cases b:S.live g with
   |true=>rfl
   |false=>exact absurd (.inr (.inl b)) a
  exact h.cN c a _
structure ya(S S0:Cs)(id:Int)(p:Pg)(o:Int)(a:Nat)(r:Cs×Int×Int):Prop where
 took:nx S S0 o a (S.take o)
 bH:S0.bz.pg id=some p
 VI:r.2=(-1,0)
 pg:∀x,r.1.bz.pg x=if x=id then some {p with owner:=o,place:=1,at_:=a} else S0.bz.pg x
 next:r.1.bz.next=S.bz.next
 tree:r.1.tree=S.tree
 files:r.1.files=S0.files
 cG:r.1.fr.cG=(By.wr S0.fr.bK.length S0.fr.cG a (S0.text p)).1
 bK:r.1.fr.bK=S0.fr.bK.set a true
 used:r.1.fr.used=dt S0.fr.used (c8 S.tree o) 1
 sl:r.1.sl=if p.place=2 then S0.sl.di p.at_ (c8 S.tree o)else S0.sl
 guards:r.1.guards=S.guards
def rI(h:Inv0 S)(l:∀x p,S.bz.pg x=some p->p.kf<0->p.place≠0){id g:Int}{p:Pg}(hp:S.bz.pg id=some p)(D:S.live g=true)(F:¬ (p.place=0/\p.kf<0))(h1:p.place≠1):
  (∃S0 a,ya S S0 id p (if p.place=0 then g else p.owner) a (S.cb id g)/\Inv (S.cb id g).1)\/∃S0 t,vq S S0 (if p.place=0 then g else p.owner) t (S.take (if p.place=0 then g else p.owner))/\S.cb id g=(S0,t,12):=by
 have j:Inv S:=⟨h,l⟩
 have s:S.live (if p.place=0 then g else p.owner)=true:=by
  split;·exact D
  ·exact h.own _ _ hp
 have y:S.cb id g=(let o:=if p.place=0 then g else p.owner
  let t:=S.take o
  if t.2.2.2≠0 then(t.1,t.2.2.1,t.2.2.2)else
  let text:=t.1.text p;let i:=if p.place=2 then {t.1 with sl:=t.1.sl.di p.at_ (t.1.chain o)} else t.1
  let z:=l2 i.log ((i.kept id).getD 0) (i.memory o)
  (i.place id t.2.1 o text (!z), -1,0)):=by
  unfold Cs.cb;rw[h.bH hp];dsimp only;rw[bJ (by rintro(d|d|d);exact d rfl;rw[D]at d;cases d;exact F d),bJ h1]
 dsimp only at y;rcases Cs.fM j s with⟨S0,a,k⟩|⟨S0,t,k⟩
 ·left;have c:=k.outs.kept j;have B:=k.outs.inv j;obtain⟨q,G,_,_,_,_,v⟩:=c.bH id p hp;have v:=v h1;subst v;generalize ho:(if q.place=0 then g else q.owner)=o at*
  have E:S0.live o=true:=Inv0.jk j k.outs s;have f:=k.lim;rw[<- c.tree]at f;have n:∀(P:List Bool) (U:List ei),Cs.text {S0 with fr:={S0.fr with bK:=P,used:=U}} q=S0.text q:=by
   intro P U;unfold Cs.text;rw[bJ h1,bJ h1]
  have H:=(h.ct.pl _ _ hp).1;have A:q.place=0\/(q.place=2/\q.owner=o):=by
   by_cases e:q.place=0;·exact .inl e
   ·rw[bJ e]at ho;exact .inr ⟨bA,ho⟩
  have b:∃dZ,S.cb id g=(Cs.place {S0 with fr:={S0.fr with bK:=S0.fr.bK.set a true,used:=dt S0.fr.used (c8 S0.tree o) 1},sl:=if q.place=2 then S0.sl.di q.at_ (c8 S0.tree o)else S0.sl} id a o (S0.text q) dZ, -1,0):=by
   refine⟨!l2 S0.log ((S0.kept id).getD 0) (cJ (dt S0.fr.used (c8 S.tree o) 1) o),?_⟩;rw[y,k.eq];dsimp only;rw[bJ bO,n,c.tree];by_cases e:q.place=2
   ·simp only[bM e];rfl
   ·simp only[bJ e];rfl
  obtain⟨dZ,b⟩:=b;have w:=B.toInv0.toFrame (id:=id) (g:=o) G A E k.free f (S0.text q) dZ;have u:∀x,(S.cb id g).1.bz.pg x=if x=id then some {q with owner:=o,place:=1,at_:=a} else S0.bz.pg x:=by
   intro x;rw[b];exact IC (T:=S0.bz) (S:={S0 with fr:={S0.fr with bK:=S0.fr.bK.set a true,used:=dt S0.fr.used (c8 S0.tree o) 1},sl:=if q.place=2 then S0.sl.di q.at_ (c8 S0.tree o)else S0.sl}) (text:=S0.text q) (dZ:=dZ) w.2 x
  refine⟨S0,a,⟨k,G,by rw[b],u,?_,?_,?_,?_,?_,?_,?_,?_⟩,?_,λx r m C=>?_⟩
  ·rw[b];show(((S0.bz.own id o).1.put id 1 a).1).next=_;rw[w.2];exact c.next
  ·rw[b];exact c.tree
  ·rw[b];rfl
  ·rw[b];show(By.wr (S0.fr.bK.set a true).length S0.fr.cG a (S0.text q)).1=_;rw[dA]
  ·rw[b];rfl
  ·rw[b,<- c.tree];rfl
  ·rw[b,<- c.tree];rfl
  ·rw[b];exact c.guards
  ·rw[b];exact w.1
  ·rw[u]at m;split at m;·rw[<- cQ m];show(1:Int)≠0;decide
   ·exact B.anon _ _ m C
 ·right;refine⟨S0,t,k,?_⟩;rw[y,k.eq];dsimp only;rw[bM bO]
def og(h:Inv0 S){id g:Int}(b:S.bz.pg id=none\/S.live g=false\/∃p,S.bz.pg id=some p/\p.place=0/\p.kf<0):S.cb id g=(S, -1,2):=by
 unfold Cs.cb;dsimp only;rw[bM];rcases b with a|a|⟨p,hp,a⟩
 ·left;unfold TS.get;rw[a];decide
 ·exact .inr (.inl a)
 ·right;right;rw[h.bH hp];exact a
def tn(h:Inv0 S){id g:Int}{p:Pg}(hp:S.bz.pg id=some p)(h1:p.place=1)(b:S.live g=true):S.cb id g=({S with bY:=(j7 S.bY id).1}, -1,0):=by
 unfold Cs.cb;rw[h.bH hp];dsimp only;rw[bJ (by rintro(a|a|a);exact a rfl;rw[b]at a;cases a;rw[h1]at a;cases a.1),bM h1]
def Inv.cb(h:Inv S)(id g:Int):Inv (S.cb id g).1:=by
 cases hp:S.bz.pg id with
 |none=>rw[og h.toInv0 (.inl hp)];exact h
 |some p=>
  cases b:S.live g with
  |false=>rw[og h.toInv0 (.inr (.inl b))];exact h
  |true=>
   by_cases c:p.place=0/\p.kf<0;·rw[og h.toInv0 (.inr (.inr ⟨p,hp,c⟩))];exact h
   ·by_cases h1:p.place=1;·rw[tn h.toInv0 hp h1 b];exact h.cS id
    ·rcases rI h.toInv0 h.anon hp b c h1 with⟨S0,a,k,d⟩|⟨S0,t,k,he⟩
     ·exact d
     ·rw[he];exact k.outs.inv h
def yb{T:TS}{id:Int}{p:Pg}(hp:T.pg id=some p)(b:p.refs<=0)(a:p.place=0):T.drop id=({T with pg:=cK T.pg id none,files:=cK T.files (p.kf,p.ki) none},0):=by
 unfold TS.drop;rw[hp];dsimp only;rw[cM]
def mT{κ α:Type}[DecidableEq κ]{f:κ->Option α}{k x:κ}{y:α}(h:cK f k none x=some y):x≠k/\f x=some y:=by
 unfold cK at h;split at h;·cases h
 ·next e=>exact⟨e,h⟩
def Inv0.lC(h:Inv0 S){id:Int}{p:Pg}(hp:S.bz.pg id=some p)(l:p.place=0):Inv0 {S with bz:={S.bz with pg:=cK S.bz.pg id none,files:=cK S.bz.files (p.kf,p.ki) none}} :=by
 have n:∀pl:Int,pl≠0->∀x,(cK S.bz.pg id none x=S.bz.pg x)\/((∀p,S.bz.pg x=some p->p.place≠pl)/\∀p,cK S.bz.pg id none x=some p->p.place≠pl)\/(∃p k,S.bz.pg x=some p/\cK S.bz.pg id none x=some k/\k.place=p.place/\k.at_=p.at_/\k.owner=p.owner):=by
  intro pl m x;by_cases hx:x=id
  ·subst hx;refine .inr (.inl ⟨λq b=>?_,λq b=>?_⟩);·rw[hp]at b;rw[<- cQ b,l];exact m.symm
   ·rw[l6]at b;cases b
  ·exact .inl (c9 _ _ hx)
 refine {h with ct:=⟨h.ct.next,λx q b=>h.ct.ids _ _ (mT b).2,λpl a x=>?_,λkf ki x=>?_,λx q b=>h.ct.pl _ _ (mT b).2⟩,own:=λx q b=>h.own _ _ (mT b).2,fr:=h.fr.other rfl (n 1 bO),sl:=h.sl.other rfl (n 2 bO),gen:=λx g=>?_,kb:=λx q b=>h.kb _ _ (mT b).2}
 ·show S.bz.cV (pl,a)=some x↔∃q,cK S.bz.pg id none x=some q/\_;rw[h.ct.spot];constructor
  ·rintro⟨q,b,c,d,f⟩;have hx:x≠id:=by
    rintro rfl;rw[hp]at b;rw[<- cQ b,l]at c;exact f c.symm
   exact⟨q,by rw[c9 _ _ hx];exact b,c,d,f⟩
  ·rintro⟨q,b,e⟩;exact⟨q,(mT b).2,e⟩
 ·show cK S.bz.files (p.kf,p.ki) none (kf,ki)=some x↔∃q,cK S.bz.pg id none x=some q/\_;constructor
  ·intro hx;obtain⟨i,hx⟩:=mT hx;obtain⟨q,b,c,d,f⟩:=(h.ct.file kf ki x).1 hx;have j:x≠id:=by
    rintro rfl;rw[hp]at b;have:=cQ b;subst this;exact i (by rw[c,d])
   exact⟨q,by rw[c9 _ _ j];exact b,c,d,f⟩
  ·rintro⟨q,b,c,d,f⟩;obtain⟨j,b⟩:=mT b;have hx:=(h.ct.file kf ki x).2 ⟨q,b,c,d,f⟩;have i:(kf,ki)≠(p.kf,p.ki):=by
    intro e;have e:kf=p.kf/\ki=p.ki:=by simpa using e
    have:=(h.ct.file kf ki id).2 ⟨p,hp,e.1.symm,e.2.symm,f⟩;rw[hx]at this;exact j (cQ this)
   rw[c9 _ _ i];exact hx
 ·show _↔∃q,cK S.bz.pg id none x=some q/\_;rw[h.gen];constructor
  ·rintro⟨q,b,c,d⟩;have hx:x≠id:=by
    rintro rfl;rw[hp]at b;rw[<- cQ b,l]at c;cases c
   exact⟨q,by rw[c9 _ _ hx];exact b,c,d⟩
  ·rintro⟨q,b,e⟩;exact⟨q,(mT b).2,e⟩
def VJ(h:Inv0 S){k:Int×Int}(a:0<=S.bz.of k):∃p,S.bz.pg (S.bz.of k)=some p/\(p.kf,p.ki)=k/\0<=p.kf:=by
 unfold TS.of at a ⊢;cases hf:S.bz.files k with
 |none=>rw[hf]at a;exact absurd a bO
 |some x=>
  obtain⟨kf,ki⟩:=k;obtain⟨p,hp,b,c,d⟩:=(h.ct.file kf ki x).1 hf;exact⟨p,hp,by rw[b,c],by rw[b];exact d⟩
def rJ{F:FS}{k:Int×Int}(h:ed F k=true):0<=k.1:=by
 unfold ed at h;rw[dG,gj,gj]at h;unfold nm at h;split at h;·omega
 ·omega
def Inv.cD(h:Inv S)(z:S.bz.next<16777216)(k:Int×Int)(g:Int):Inv (S.cD k g).1:=by
 unfold Cs.cD;dsimp only;split;·exact h
 ·next w=>
  have y:S.live g=true:=by
   cases f:S.live g with
   |true=>rfl
   |false=>exact absurd (.inr f) w
  have hf:ed S.files k=true:=by
   cases f:ed S.files k with
   |true=>rfl
   |false=>exact absurd (.inl f) w
  by_cases hm:S.bz.of k<0
  ·rw[dh hm];simp only[fP];obtain⟨kf,ki⟩:=k;have j:=rJ hf;have l:=oe S.bz (kf:=kf) (ki:=ki) (o:=g) ⟨h.ct.next,z⟩ (.inr hm);rw[show(S.bz.make kf ki g).2.1=S.bz.next by rw[l.1]];have u:=h.toInv0.make z (kf:=kf) (ki:=ki) y (.inr ⟨hm,hf⟩);have i:fX S.bz kf ki=(kf,ki):=by unfold fX;rw[bJ (by have:0<=kf:=j;omega)]
   have hp:(S.bz.make kf ki g).1.pg S.bz.next=some ⟨kf,ki,0,0,g,0,0,false,false⟩:=by rw[l.2.2,bM rfl,i]
   have d:∀x p,(S.bz.make kf ki g).1.pg x=some p->p.kf<0->p.place≠0:=by
    intro x q c m;rw[l.2.2]at c;split at c
    ·rw[<- cQ c,i]at m;have:kf<0:=m;have:0<=kf:=j;omega
    ·exact h.anon _ _ c m
   rcases rI u d (id:=S.bz.next) (g:=g) hp y (λe=>by have h1:kf<0:=e.2;have:0<=kf:=j;omega) (by show(0:Int)≠1;decide)with⟨S0,a,b,n⟩|⟨S0,t,b,he⟩
   ·rw[b.VI];dsimp only;rw[bM rfl];exact n
   ·rw[he];dsimp only;rw[bJ bO];have v:Inv {S with bz:=(S.bz.make kf ki g).1} :=⟨u,d⟩
    have n:=b.outs.inv v;obtain⟨q,c,_,_,_,_,s⟩:=(b.outs.kept v).bH S.bz.next _ hp;have s:=s (by show(0:Int)≠1;decide);subst s;rw[yb c (e7 _) rfl];exact⟨n.toInv0.lC c rfl,λx r A=>n.anon _ _ (mT A).2⟩
  ·rw[c4 hm];simp only[kK,gq];have:=h.cb (S.bz.of k) g;split<;>exact this
def Inv.get(h:Inv S)(id a:Int):Inv (S.get id a).1:=by
 unfold Cs.get;dsimp only;split;·exact h
 ·dsimp only;split;·exact h.cS id
  ·exact h
def Inv.put(h:Inv S)(id a:Int)(b:UInt8):Inv (S.put id a b).1:=by
 unfold Cs.put;dsimp only;split;·exact h
 ·split
  ·have h1:Inv {S with fr:={S.fr with cG:=(By.pt S.fr.bK.length S.fr.cG (S.here id).1 a b).1}} :=
    ⟨{h.toInv0 with fr:={h.fr with len:=By.Vq h.fr.len _ _}},h.anon⟩
   exact((h1.cS id).mark id true)
  ·exact h
def B9{T:TS}{id n:Int}{p:Pg}(hp:T.pg id=some p):T.bX id n=if n< -1000\/1000<n\/i64.wrap (p.refs+n)<0 then(T,0,1)else(T.cI id {p with refs:=i64.wrap (p.refs+n)},i64.wrap (p.refs+n),0):=by
 unfold TS.bX;rw[hp]
def rK(h:Inv S)(id n:Int):(S.bz.pg id=none/\S.bX id n=(S,2))\/∃p,S.bz.pg id=some p/\
    (((n< -1000\/1000<n\/i64.wrap (p.refs+n)<0)/\S.bX id n=(S,1))\/
     (0<i64.wrap (p.refs+n)/\(-1000<=n/\n<=1000)/\S.bX id n=({S with bz:=S.bz.cI id {p with refs:=i64.wrap (p.refs+n)}},0))\/
     (i64.wrap (p.refs+n)=0/\(-1000<=n/\n<=1000)/\(S.bX id n).2=0/\Inv (S.bX id n).1/\(S.bX id n).1.bz.next=S.bz.next/\(∀x,(S.bX id n).1.bz.pg x=if x=id then none else S.bz.pg x)/\(S.bX id n).1.tree=S.tree/\(S.bX id n).1.guards=S.guards/\
       (S.bX id n).1.fr=(if p.place=1 then S.fr.di p.at_ (c8 S.tree p.owner)else S.fr)/\(S.bX id n).1.sl=(if p.place=2 then S.sl.di p.at_ (c8 S.tree p.owner)else S.sl)/\
       (S.bX id n).1.files.bP=S.files.bP/\(p.kf<0->(S.bX id n).1.files=S.files))):=by
  cases hp:S.bz.pg id with
  |none=>
    refine .inl ⟨rfl,?_⟩;unfold Cs.bX TS.bX;rw[hp];rfl
  |some p=>
    refine .inr ⟨p,rfl,?_⟩;by_cases A:n< -1000\/1000<n\/i64.wrap (p.refs+n)<0
    · refine .inl ⟨A,?_⟩
      unfold Cs.bX;rw[B9 hp,bM A];rfl
    · by_cases T:0<i64.wrap (p.refs+n)
      · refine .inr (.inl ⟨T,bA,?_⟩)
        unfold Cs.bX;rw[B9 hp,bJ A];dsimp only;rw[bM (.inr T)]
      · refine .inr (.inr ⟨bA,bA,?_⟩)
        have Y:i64.wrap (p.refs+n)=0:=by omega
        have h1:Inv {S with bz:=S.bz.cI id {p with refs:=0}} :=h.cI hp rfl rfl rfl rfl (e7 _) rfl;have c:(S.bz.cI id {p with refs:=0}).pg id=some {p with refs:=0} :=l6 _ _ _;have j:∀x,x≠id->(S.bz.cI id {p with refs:=0}).pg x=S.bz.pg x:=λx hx=>c9 _ _ hx;have U:=(h.ct.pl _ _ hp).1;have f:S.bX id n=(let a:Cs:={S with bz:=S.bz.cI id {p with refs:=0}}
          let Q:=a.chain p.owner;let N:=if p.place=1 then
              let b:=a.clean id {p with refs:=0}
              {b with fr:=b.fr.di p.at_ Q,bY:=(iT b.bY id).1}
            else if p.place=2 then {a with sl:=a.sl.di p.at_ Q} else a
          let d:=(N.bz.put id 0 0).1.drop id
          ({N with bz:=d.1},d.2)):=by
          unfold Cs.bX;rw[B9 hp,bJ A,Y];dsimp only;rw[cM];have:=h1.bH c;dsimp only at this;rw[this]
        generalize i:({S with bz:=S.bz.cI id {p with refs:=0}} :Cs)=a at*
        have o:a.tree=S.tree:=by subst i;rfl
        have z:a.fr=S.fr:=by subst i;rfl
        have F:a.sl=S.sl:=by subst i;rfl
        have G:a.guards=S.guards:=by subst i;rfl
        have s:a.files=S.files:=by subst i;rfl
        have R:a.bz=S.bz.cI id {p with refs:=0} :=by subst i;rfl
        rw[<- R]at c j;have H:a.bz.next=S.bz.next:=by rw[R];rfl
        clear i;rw[f];dsimp only;by_cases hf:p.place=1
        · rw[bM hf,bM hf,bJ (by rw[hf];decide)]
          obtain⟨q,V,af,q2,al,am,ag,ah⟩:=x7 (S:=a) id {p with refs:=0} _ c;have m:=h1.clean id {p with refs:=0};obtain⟨O,P,ab,ai,aj,ak,ad⟩:=vp (S:=a) id {p with refs:=0};have E:=Iz (S:=a) c hf {p with refs:=0};have J:p.kf<0->(a.clean id {p with refs:=0}).files=a.files:=by
            intro l;unfold Cs.clean;rw[bJ (λae=>by have:0<=p.kf:=ae.1;omega)]
          have C:∀x,x≠id->(a.clean id {p with refs:=0}).bz.pg x=a.bz.pg x:=by
            intro x hx;unfold Cs.clean;split
            · show(a.bz.mark id false).1.pg x=_
              rw[(od _ _ _).2.2.2];cases a.bz.pg x<;>simp[hx]
            · rfl
          generalize a.clean id {p with refs:=0} =b at*
          have I:=m.toInv0.lA V (by rw[af];exact hf) (lg:=b.log) m.log (K:=b.kept);have L:=m.toInv0.l8 V;dsimp only;rw[L];have g:(b.bz.dP id q 0 0).pg id=some (q.to 0 0):=by rw[iW,bM rfl]
          rw[yb g (by show q.refs<=0;rw[ah];exact e7 _) rfl];have t:=I.lC g rfl;have B:b.fr.di q.at_ (c8 b.tree q.owner)=S.fr.di p.at_ (c8 S.tree p.owner):=by rw[P,z,O,o,q2,ag]
          have v:b.fr.di p.at_ (a.chain p.owner)=S.fr.di p.at_ (c8 S.tree p.owner):=by rw[P,z];unfold Cs.chain;rw[o]
          rw[B]at t;rw[v];refine⟨rfl,⟨t,λx r f l=>?_⟩,?_,λx=>?_,?_,?_,rfl,?_,?_,λl=>?_⟩
          · obtain⟨hx,f⟩:=mT f
            rw[iW,bJ hx]at f;exact m.anon _ _ f l
          · show b.bz.next=_
            rw[E.next,H]
          · show cK (b.bz.dP id q 0 0).pg id none x=_
            by_cases hx:x=id;· subst hx;rw[l6,bM rfl]
            · rw[c9 _ _ hx,bJ hx,iW,bJ hx,C x hx,j x hx]
          · show b.tree=_;rw[O,o]
          · show b.guards=_;rw[ad,G]
          · show b.sl=_;rw[ab,F]
          · show b.files.bP=_;rw[E.bP,s]
          · show b.files=_;rw[J l,s]
        · rw[bJ hf,bJ hf]
          by_cases w:p.place=2
          · rw[bM w,bM w]
            have I:=h1.toInv0.rF c w;dsimp only;rw[h1.toInv0.l8 c];have g:(a.bz.dP id {p with refs:=0} 0 0).pg id=some (Pg.to {p with refs:=0} 0 0):=by rw[iW,bM rfl]
            rw[yb g (e7 _) rfl];have t:=I.lC g rfl;refine⟨rfl,⟨t,λx r f l=>?_⟩,H,λx=>?_,o,G,z,?_,by rw[s],λ_=>s⟩
            · obtain⟨hx,f⟩:=mT f
              rw[iW,bJ hx]at f;exact h1.anon _ _ f l
            · show cK (a.bz.dP id _ 0 0).pg id none x=_
              by_cases hx:x=id;· subst hx;rw[l6,bM rfl]
              · rw[c9 _ _ hx,bJ hx,iW,bJ hx,j x hx]
            · show a.sl.di p.at_ (a.chain p.owner)=_
              rw[F];unfold Cs.chain;rw[o]
          · rw[bJ w,bJ w]
            have k:p.place=0:=by omega
            rw[h1.toInv0.l8 c];have g:(a.bz.dP id {p with refs:=0} 0 0).pg id=some (Pg.to {p with refs:=0} 0 0):=by rw[iW,bM rfl]
            rw[yb g (e7 _) rfl];have D:a.bz.dP id {p with refs:=0} 0 0=a.bz:=by
              have u:p.at_=0:=U.2.2.2 k;have X:Pg.to {p with refs:=0} 0 0= {p with refs:=0} :=by
                show({p with refs:=0,place:=0,at_:=0} :Pg)= {p with refs:=0}
                cases p;simp only at k u;subst k u;rfl
              have M:a.bz.cV (p.place,p.at_)=none:=by
                rw[k,u];cases W:a.bz.cV (0,0)with
                |none=>rfl
                |some y=>
                  obtain⟨_,_,_,_,e⟩:=(h1.ct.spot 0 0 y).1 W;exact absurd rfl e
              unfold TS.dP;rw[X,bJ bO];have Z:cK a.bz.pg id (some {p with refs:=0})=a.bz.pg:=by
                funext x;unfold cK;split;· next e=>rw[e,c]
                · rfl
              have aa:cK a.bz.cV (({p with refs:=0} :Pg).place,({p with refs:=0} :Pg).at_) none=a.bz.cV:=by
                funext x;unfold cK;split;· next e=>rw[e];exact M.symm
                · rfl
              rw[Z,aa]
            rw[D]at g ⊢;have t:=h1.toInv0.lC c k;refine⟨rfl,⟨t,λx r f l=>h1.anon _ _ (mT f).2 l⟩,H,λx=>?_,o,G,z,F,by rw[s],λ_=>s⟩;show cK a.bz.pg id none x=_;by_cases hx:x=id;· subst hx;rw[l6,bM rfl]
            · rw[c9 _ _ hx,bJ hx,j x hx]
def Inv.bX(h:Inv S)(id n:Int):Inv (S.bX id n).1:=by
 rcases rK h id n with⟨_,he⟩|⟨p,hp,⟨_,he⟩|⟨b,_,he⟩|⟨_,_,_,a,_⟩⟩
 ·rw[he];exact h
 ·rw[he];exact h
 ·rw[he];exact h.cI hp rfl rfl rfl rfl (by show 0<=i64.wrap (p.refs+n);omega) rfl
 ·exact a
end Go.Kc
namespace Go.Kt
def ID{l l':List G}:∀(g:Nat),(∀i,i<=g->((l'[i]?).map G.up)=((l[i]?).map G.up))->chain l' g=chain l g:=by
 intro g;induction g using Nat.strongRecOn with
 |_ g a=>
  intro h;rw[chain.eq_def l' g,chain.eq_def l g,h g (dN _)];split;·next b=>rw[a _ bA (λi c=>h i bA)]
  ·rfl
def IE{l:List G}{n:Nat}:dw l n=((l[n]?).map G.live).getD false:=by
 unfold dw;rw[dh bA,dk];cases l[n]? <;>rfl
def IF{l:List G}{g:Int}(h:g<0):dw l g=false:=by
 unfold dw;rw[c4 bA];rfl
def IG{l:List G}{x:G}{g:Int}(h:dw l g=true):dw (l++[x]) g=true:=by
 obtain⟨n,rfl,y,b,c⟩:=iE.1 h;have a:=(cT.1 b).1;exact iE.2 ⟨n,rfl,y,by rw[eE a];exact b,c⟩
def VK{l:List G}{x:G}{g:Int}(h:dw l g=true):c8 (l++[x]) g=c8 l g:=by
 unfold c8;rw[bM h,bM (IG h)];obtain⟨n,rfl,y,a,d⟩:=iE.1 h;have b:=(cT.1 a).1;rw[dk,ID (l:=l) (l':=l++[x]) n (λi c=>by rw[eE bA])]
def VL{l:List G}{p:Int}(h:(gr l p).2.2=0):dw l p=true/\l.length<64/\gr l p=(l++[⟨p,true⟩],(l.length:Int),0):=by
 unfold gr at h ⊢;split at h;·cases h
 next h1=>
 rw[bJ h1];split at h;·cases h
 next a=>
 rw[bJ a];split at h;·cases h
 next b=>
 rw[bJ b];exact⟨by simpa using h1,bA,rfl⟩
def VM{l:List G}{g:Int}(h:(iF l g).2=0):∃n:Nat,g=n/\0<n/\∃x,l[n]?=some x/\x.live=true/\jX l g= []/\iF l g=(l.set n ⟨x.up,false⟩,0):=by
 unfold iF at h ⊢;split at h;·cases h
 next h1=>
 rw[bJ h1];split at h;·cases h
 next a=>
 rw[bJ a];split at h;·cases h
 next b=>
 rw[bJ b];obtain⟨n,rfl,x,hx,c⟩:=iE.1 (show dw l g=true by simpa using a);refine⟨n,rfl,bA,x,hx,c,by simpa using b,?_⟩;rw[dk,hx];rfl
variable{l:List G}{n:Nat}{x:G}
def IH(hx:l[n]?=some x)(g:Int):dw (l.set n ⟨x.up,false⟩) g=(dw l g&& !(g==(n:Int))):=by
 have a:=(cT.1 hx).1;rcases Int.lt_or_le g 0 with h|h;·rw[IF h,IF h];rfl
 ·obtain⟨m,rfl⟩:∃m:Nat,g=m:=⟨g.toNat,bA⟩
  rw[IE,IE];by_cases e:n=m
  ·subst e;rw[iM a,hx];simp
  ·rw[h4 e];have:((m:Int)==(n:Int))=false:=by simp;omega
   rw[this];simp
def VN(hx:l[n]?=some x)(g:Nat):chain (l.set n ⟨x.up,false⟩) g=chain l g:=by
 have a:=(cT.1 hx).1;refine ID g (λi _=>?_);by_cases e:n=i;·subst e;rw[iM a,hx];rfl
 ·rw[h4 e]
def II(hx:l[n]?=some x){g:Int}(b:dw l g=true)(a:g≠n):c8 (l.set n ⟨x.up,false⟩) g=c8 l g:=by
 unfold c8;rw[IH hx,b,bM rfl,bM (by simpa using a),VN hx]
def Ca{g:Nat}(a:dw l g=true):c8 l g=(chain l g).map Int.ofNat:=by unfold c8;rw[bM a,dk]
def VO(hw:WF l)(m:jX l n= [])(o:dw l n=true):∀(g:Nat),dw l g=true->g≠n->n∉chain l g:=by
 intro g;induction g using Nat.strongRecOn with
 |_ g p=>
  intro f d hm;obtain⟨a,e,y,b,i⟩:=iE.1 f;have e:a=g:=by omega
  subst e;rcases lq a with c|c;·subst c;rw[uX,iD]at hm;exact d hm.symm
  ·have hu:=hw.up a y b c;rw[sQ hw b c]at hm;rcases ey.1 hm with e|hm;·exact d e.symm
   ·by_cases e:y.up.toNat=n
    ·have h:=(cT.1 b).1;have:(a:Int)∈jX l n:=by
      unfold jX n2;rw[bM o];refine e4.2 ⟨a,fO.2 ⟨fW.2 h,?_⟩,rfl⟩;rw[dG];refine⟨f,?_⟩;show(((l[a]?).map G.up).getD (-1)==(n:Int))=true;rw[b];simp only[jh,mB,pH];omega
     rw[m]at this;cases this
    ·obtain⟨z,j⟩:∃z,l[y.up.toNat]?=some z:=⟨_,dD (by have:=(cT.1 b).1;omega)⟩
     have k:=hw.live a y z b c i j;exact p _ bA (iE.2 ⟨_,rfl,z,j,k⟩) e hm
end Go.Kt
namespace Go.Kc
open Go Go.Kt Go.Sp
variable{S:Cs}
def hZ.tree{T:TS}{tree a:List G}{s:eJ}{pl:Int}(h:hZ T tree s pl)(d:∀x p,T.pg x=some p->c8 a p.owner=c8 tree p.owner):hZ T a s pl:=by
 refine⟨h.fq,h.len,h.used,h.taken,λg c b=>?_,h.all⟩;rw[h.use g c b];congr 1;refine(tk rfl (λx=>?_)).symm;cases hp:T.pg x with
 |none=>rfl
 |some p=>unfold pB below;dsimp only;rw[d x p hp]
def Inv.bZ(h:Inv S)(p:Int):Inv (S.bZ p).1:=by
 unfold Cs.bZ;dsimp only;split
 ·next c=>
  obtain⟨e,d,he⟩:=VL c;have hw:=Uc h.wf p;rw[he]at hw ⊢;dsimp only at hw ⊢;have b:∀x q,S.bz.pg x=some q->c8 (S.tree++[⟨p,true⟩]) q.owner=c8 S.tree q.owner:=λx q a=>VK (h.own _ _ a);exact {h with wf:=hw,gl:=by show(S.guards++[_]).length=(S.tree++[_]).length;rw[da,da,h.gl];rfl,own:=λx q a=>IG (h.own _ _ a),fr:=h.fr.tree b,sl:=h.sl.tree b}
 ·exact h
def Inv.oX(h:Inv S){l:List eH}(a:l.length=S.guards.length):Inv {S with guards:=l} :={h with gl:=by show l.length=_;rw[a];exact h.gl}
def Inv.cf(h:Inv S)(g c5 n:Int):Inv (S.cf g c5 n).1:=by
 have b:∀x,Inv (S.iV g x):=λx=>h.oX (by simp);have c:∀ {T:TS} {tree:List G} {s:eJ} {pl:Int},hZ T tree s pl->hZ T tree {s with used:=(hs s.used g n).1} pl:=by
  intro T tree s pl a;exact⟨a.fq,a.len,a.used.ka g n,a.taken,λx hx d=>by rw[<- a.use x hx d];exact vo a.used.len g n x,a.all⟩
 unfold Cs.cf;split;·exact h
 split;·exact h
 split;·exact b _
 split;·exact b _
 split;·exact {h with fr:=c h.fr}
 split;·exact {h with sl:=c h.sl}
 split
 ·split;·exact h
  ·exact b _
 ·exact h
def IJ(T:TS)(id o:Int):(T.own id o).1.next=T.next/\(T.own id o).1.files=T.files/\(T.own id o).1.cV=T.cV/\∀x,(T.own id o).1.pg x=(T.pg x).map λp=>if x=id then {p with owner:=o} else p:=by
 unfold TS.own;cases hp:T.pg id with
 |none=>
  refine⟨rfl,rfl,rfl,λx=>?_⟩;by_cases e:x=id;·subst e;simp[hp]
  ·cases T.pg x<;>simp[e]
 |some p=>
  refine⟨rfl,rfl,rfl,λx=>?_⟩;show cK T.pg id (some _) x=_;by_cases e:x=id;·subst e;rw[l6,hp];simp
  ·rw[c9 _ _ e];cases T.pg x<;>simp[e]
def rL(o:Int):∀(ids:bU) (T:TS),(T.dq ids o).next=T.next/\(T.dq ids o).files=T.files/\(T.dq ids o).cV=T.cV/\∀x,(T.dq ids o).pg x=(T.pg x).map λp=>if x∈ids then {p with owner:=o} else p
 |[],T=>⟨rfl,rfl,rfl,λx=>by show T.pg x=_;cases T.pg x<;>simp⟩
 |id::ids,T=>by
  obtain⟨c,d,a3,a4⟩:=IJ T id o;obtain⟨b1,b2,b3,b4⟩:=rL o ids (T.own id o).1;refine⟨b1.trans c,b2.trans d,b3.trans a3,λx=>(b4 x).trans ?_⟩;rw[a4];cases T.pg x with
  |none=>rfl
  |some p=>
   simp only[jh,eF,ey];by_cases a:x=id;·by_cases b:x∈ids<;>simp[a]
   ·by_cases b:x∈ids<;>simp[a,b]
def Cb{T:TS}(b:ha T){g x:Int}:x∈T.ee g↔∃p,T.pg x=some p/\p.owner=g:=by
 unfold TS.ee;rw[e4];constructor
 ·rintro⟨n,a,rfl⟩;rw[fO]at a;obtain⟨_,a⟩:=a;show ∃p,T.pg (n:Int)=some p/\_;cases hp:T.pg (n:Int)with
  |none=>rw[hp]at a;cases a
  |some p=>rw[hp]at a;exact⟨p,rfl,by simpa using a⟩
 ·rintro⟨p,hp,ho⟩;have:=b.ids _ _ hp;refine⟨x.toNat,fO.2 ⟨fW.2 bA,?_⟩,by show((x.toNat:Nat):Int)=x;omega⟩;have e:((x.toNat:Nat):Int)=x:=by omega
  rw[e,hp];simpa using ho
def tp{T:TS}(a:ha T)(g o x:Int):(T.dq (T.ee g) o).pg x=(T.pg x).map λp=>if p.owner=g then {p with owner:=o} else p:=by
 rw[(rL o _ T).2.2.2 x];cases hp:T.pg x with
 |none=>rfl
 |some p=>
  simp only[jh,eF];by_cases e:p.owner=g;·rw[bM e,bM ((Cb a).2 ⟨p,hp,e⟩)]
  ·rw[bJ e,bJ (λhm=>by
    obtain⟨q,b,c⟩:=(Cb a).1 hm;rw[hp]at b;exact e (by rw[cQ b];exact c))]
def ha.vr{T:TS}(f:ha T)(g o:Int):ha (T.dq (T.ee g) o):=by
 have h:=tp f g o;obtain⟨h1,j,k,_⟩:=rL o (T.ee g) T;generalize T.dq (T.ee g) o=T' at*
 have hf:∀ {x q},T'.pg x=some q->∃p,T.pg x=some p/\q.place=p.place/\q.at_=p.at_/\q.kf=p.kf/\q.ki=p.ki/\q.refs=p.refs:=by
  intro x q b;rw[h]at b;cases hp:T.pg x with
  |none=>rw[hp]at b;cases b
  |some p=>
   rw[hp]at b;have:=cQ b;subst this;refine⟨p,rfl,?_,?_,?_,?_,?_⟩<;>(dsimp only;split<;>rfl)
 have i:∀ {x p},T.pg x=some p->∃q,T'.pg x=some q/\q.place=p.place/\q.at_=p.at_/\q.kf=p.kf/\q.ki=p.ki:=by
  intro x p hp;rw[h,hp];refine⟨_,rfl,?_,?_,?_,?_⟩<;>(dsimp only;split<;>rfl)
 refine⟨by rw[h1];exact f.next,λx q b=>?_,λpl a x=>?_,λkf ki x=>?_,λx q b=>?_⟩
 ·obtain⟨p,hp,_⟩:=hf b;rw[h1];exact f.ids _ _ hp
 ·rw[k,f.spot];constructor
  ·rintro⟨p,hp,c,d,e⟩;obtain⟨q,b,f1,f2,_⟩:=i hp;exact⟨q,b,by rw[f1,c],by rw[f2,d],e⟩
  ·rintro⟨q,b,c,d,e⟩;obtain⟨p,hp,f1,f2,_⟩:=hf b;exact⟨p,hp,by rw[<- f1,c],by rw[<- f2,d],e⟩
 ·rw[j,f.file];constructor
  ·rintro⟨p,hp,c,d,e⟩;obtain⟨q,b,_,_,f1,f2⟩:=i hp;exact⟨q,b,by rw[f1,c],by rw[f2,d],e⟩
  ·rintro⟨q,b,c,d,e⟩;obtain⟨p,hp,_,_,f1,f2,_⟩:=hf b;exact⟨p,hp,by rw[<- f1,c],by rw[<- f2,d],e⟩
 ·obtain⟨p,hp,f1,f2,_,_,f5⟩:=hf b;have:=f.pl _ _ hp;rw[f1,f2,f5];exact this
def VP{C:List ei}(b:hd C){g:Int}(c:0<=g/\g<64)(x:Int):cJ (fJ C [g] (cJ C g)).1 x=if x=g then 0 else cJ C x:=by
 have ho:=(b.of g).1;have d:iH [g] (cJ C g)=true:=l4.2 ⟨λy a=>by rw[iD]at a;subst a;exact c,by simp,ho⟩;rw[rD d (λy a=>by rw[iD]at a;subst a;exact e7 _)];show cJ (dt C [g] (-(cJ C g))) x=_;rw[oc b.len (λy a=>by rw[iD]at a;subst a;exact c) (by simp)];by_cases e:x=g;·subst e;simp;omega
 ·simp[e]
def hZ.gone{T:TS}(K:ha T){tree:List G}(hw:WF tree){s:eJ}{pl:Int}(h:hZ T tree s pl)(j:∀x p,T.pg x=some p->dw tree p.owner=true){n:Nat}{x:G}(v:0<n)(hx:tree[n]?=some x)(E:x.live=true)(M:jX tree n= []):
  hZ (T.dq (T.ee n) x.up) (tree.set n ⟨x.up,false⟩) {s with used:=(fJ s.used [(n:Int)] (cJ s.used n)).1} pl:=by
 have N:=(cT.1 hx).1;have L:=hw.fq;have w:dw tree n=true:=iE.2 ⟨n,rfl,x,hx,E⟩;have hu:=hw.up n x hx v;obtain⟨z,I⟩:∃z,tree[x.up.toNat]?=some z:=⟨_,dL⟩
 have J:=hw.live n x z hx v E I;have u:((x.up.toNat:Nat):Int)=x.up:=by omega
 have t:dw tree x.up=true:=by rw[<- u];exact iE.2 ⟨_,rfl,z,I,J⟩
 have A:x.up≠(n:Int):=by omega
 have f:=tp K n x.up;have r:=(rL x.up (T.ee n) T).1;generalize T.dq (T.ee n) x.up=T' at*
 have o:c8 tree n=(n:Int)::c8 tree x.up:=by
  rw[Ca w,sQ hw hx v];rw[show c8 tree x.up=c8 tree ((x.up.toNat:Nat):Int) by rw[u],Ca (by rw[u];exact t)];rfl
 have F:(n:Int)∉c8 tree x.up:=by
  have:=(l5 hw w).2.1;rw[o,pD]at this;exact this.1
 have key:∀(y:Int) (g:Int),pB (T'.pg y) pl (below (tree.set n ⟨x.up,false⟩) g)=(pB (T.pg y) pl (below tree g)&& !(g==(n:Int))):=by
  intro y g;rw[f];cases hp:T.pg y with
  |none=>rfl
  |some p=>
   simp only[jh];unfold pB below;dsimp only;by_cases e:p.owner=(n:Int)
   ·rw[bM e];dsimp only;rw[II hx t A,e,o];by_cases c:g=(n:Int)
    ·subst c;have:(c8 tree x.up).contains (n:Int)=false:=by simpa using F
     rw[this];simp
    ·have:(g==(n:Int))=false:=by simpa using c
     rw[List.contains_cons,this];simp
   ·rw[bJ e,II hx (j _ _ hp) e];by_cases c:g=(n:Int)
    ·subst c;have:(c8 tree p.owner).contains (n:Int)=false:=by
      have d:=j _ _ hp;obtain⟨m,hm,_⟩:=iE.1 d;rw[hm]at d ⊢;have:=VO hw M w m d (λb=>e (by rw[hm,b]));rw[Ca d];simp only[List.contains_eq_mem,uH,e4,not_exists,not_and];intro y H b;have b:(y:Int)=(n:Int):=b;rw[show y=n by omega]at H;exact this H
     rw[this];simp
    ·have:(g==(n:Int))=false:=by simpa using c
     rw[this];simp
 have B:∀(y:Int),pB (T'.pg y) pl (λ_=>true)=pB (T.pg y) pl (λ_=>true):=by
  intro y;rw[f];cases hp:T.pg y with
  |none=>rfl
  |some p=>simp only[jh];unfold pB;dsimp only;split<;>rfl
 refine⟨h.fq,h.len,h.used.di _ _,λa=>?_,λg c C=>?_,by rw[h.all];exact(tk r B).symm⟩
 ·rw[h.taken a];constructor
  ·rintro⟨y,p,hp,l,b⟩;refine⟨y,(if p.owner=(n:Int)then {p with owner:=x.up} else p),by rw[f,hp];rfl,?_,?_⟩
   ·split;·exact l
    ·exact l
   ·split;·exact b
    ·exact b
  ·rintro⟨y,q,k,l,b⟩;rw[f]at k;cases hp:T.pg y with
   |none=>rw[hp]at k;cases k
   |some p=>
    rw[hp]at k;have:=cQ k;subst this;refine⟨y,p,hp,?_,?_⟩;·rw[<- l];dsimp only;split<;>rfl
    ·rw[<- b];dsimp only;split<;>rfl
 ·show cJ (fJ s.used [(n:Int)] (cJ s.used n)).1 g=_;rw[VP h.used ⟨bA,bA⟩];by_cases e:g=(n:Int)
  ·rw[bM e];have:hY T' pl (below (tree.set n ⟨x.up,false⟩) g)=0:=by
    unfold hY;refine Vu.2 (λi O=>?_);have:=key (i:Int) g;rw[e]at this ⊢;simp only[uQ,Bool.not_true,sN]at this;exact this
   rw[this];rfl
  ·rw[bJ e,h.use g c C];have D:(g==(n:Int))=false:=by simpa using e
   congr 1;refine(tk r (λy=>?_)).symm;rw[key,D];simp
def VQ{R:List dz}{f t:Int}(d:0<=t/\t<=16777216){x o:Int}:(∃e∈(mO R f t).1,e.id=x/\e.group=o)↔∃e∈R,e.id=x/\(if e.group=f then t else e.group)=o:=by
 unfold mO;rw[cM];have c:∀e:dz,(jx f (λ_ a=>(t,a)) e).group=if e.group=f then t else e.group:=λe=>by unfold jx;split<;>rfl
 constructor
 ·rintro⟨e,he,rfl,rfl⟩;obtain⟨y,b,rfl⟩:=e4.1 he;exact⟨y,b,(td _ _ y).symm,(c y).symm⟩
 ·rintro⟨y,b,rfl,rfl⟩;exact⟨_,e4.2 ⟨y,b,rfl⟩,td _ _ y,c y⟩
def Inv.remove(h:Inv S)(g:Int):Inv (S.remove g).1:=by
 unfold Cs.remove;dsimp only;split
 ·next v=>
  obtain⟨n,rfl,d,x,hx,b,c,he⟩:=VM v;have hw:=Ud h.wf (n:Int);rw[he]at hw ⊢;dsimp only at hw ⊢;have B:=(cT.1 hx).1;have w:=h.wf.fq;have l:dw S.tree n=true:=iE.2 ⟨n,rfl,x,hx,b⟩;have r:lT S.tree n=x.up:=by unfold lT;rw[bM l,dk,hx];rfl
  rw[r];have hu:=h.wf.up n x hx d;obtain⟨z,s⟩:∃z,S.tree[x.up.toNat]?=some z:=⟨_,dL⟩
  have t:=h.wf.live n x z hx d b s;have u:((x.up.toNat:Nat):Int)=x.up:=by omega
  have m:dw S.tree x.up=true:=by rw[<- u];exact iE.2 ⟨_,rfl,z,s,t⟩
  have i:=tp h.ct n x.up;have hf:∀ {y q},(S.bz.dq (S.bz.ee n) x.up).pg y=some q->∃p,S.bz.pg y=some p/\q=if p.owner=(n:Int)then {p with owner:=x.up} else p:=by
   intro y q a;rw[i]at a;cases hp:S.bz.pg y with
   |none=>rw[hp]at a;cases a
   |some p=>rw[hp]at a;exact⟨p,rfl,(cQ a).symm⟩
  refine⟨⟨hw,by show S.guards.length=(S.tree.set n _).length;rw[dA];exact h.gl,h.ct.vr n x.up,λy q a=>?_,h.fr.gone h.ct h.wf h.own d hx b c,h.sl.gone h.ct h.wf h.own d hx b c,h.eo.move _ _,λy o=>?_,h.log,λy q a=>?_,h.rE,?_⟩,λy q a c=>?_⟩
  ·obtain⟨p,hp,rfl⟩:=hf a;show dw (S.tree.set n ⟨x.up,false⟩) _=true;rw[IH hx];split
   ·dsimp only;rw[m];simp;omega
   ·next e=>
    rw[show dw S.tree p.owner=true from h.own _ _ hp];simpa using e
  ·show(∃e∈(mO S.bY n x.up).1,_)↔∃q,(S.bz.dq (S.bz.ee n) x.up).pg y=some q/\_;rw[VQ ⟨hu.1,bA⟩];constructor
   ·rintro⟨e,he,j,k⟩;obtain⟨p,hp,f,p2⟩:=(h.gen y e.group).1 ⟨e,he,j,rfl⟩;refine⟨_,by rw[i,hp];rfl,?_,?_⟩
    ·dsimp only;split;·exact f
     ·exact f
    ·dsimp only;rw[p2,<- k];split;·rfl
     ·exact p2
   ·rintro⟨q,a,A,q2⟩;obtain⟨p,hp,rfl⟩:=hf a;have f:p.place=1:=by rw[<- A];split<;>rfl
    obtain⟨e,he,j,k⟩:=(h.gen y p.owner).2 ⟨p,hp,f,rfl⟩;refine⟨e,he,j,?_⟩;rw[k,<- q2];split<;>rfl
  ·obtain⟨p,hp,rfl⟩:=hf a;have:=h.kb _ _ hp;split;·exact this
   ·exact this
  ·show(S.bz.dq (S.bz.ee n) x.up).next<=_;rw[(rL x.up _ _).1];exact h.ids
  ·obtain⟨p,hp,rfl⟩:=hf a;have:=h.anon _ _ hp;revert c;split;·exact this
   ·exact this
 ·exact h
end Go.Kc
namespace Go.Kc
open Go Go.Kt Go.Sp
structure Act where
 k:Int
 a:Int
 b:Int
 c:Int
 kf:Int
 ki:Int
def Cs.act(S:Cs)(x:Act):Cs×Int×Int×Int:=
 let k:=x.k.tmod 12
 if k=0 then let r:=S.bZ x.a;(r.1,r.2.1,0,r.2.2)
 else if k=1 then let r:=S.remove x.a;(r.1,0,0,r.2)
 else if k=2 then let r:=S.cf x.a x.b x.c;(r.1,0,0,r.2)
 else if k=3 then S.fresh x.a
 else if k=4 then S.cD (x.kf,x.ki) x.a
 else if k=5 then let r:=S.cb x.b x.a;(r.1,r.2.1,0,r.2.2)
 else if k=6 then S.copy x.b x.a
 else if k=7 then let r:=S.put x.b x.a (l1 x.c);(r.1,0,0,r.2)
 else if k=8 then let r:=S.get x.b x.a;(r.1,r.2.1,0,r.2.2)
 else if k=9 then let r:=S.bX x.b x.c;(r.1,0,0,r.2)
 else if k=10 then let r:=S.du x.a;(r.1,r.2,0,0)
 else let r:=S.shrink x.a x.c;(r.1,r.2,0,0)
def iy{α:Type}{P:α->Prop}{c:Prop}[Decidable c]{a b:α}(h1:c->P a)(d:¬ c->P b):P (if c then a else b):=by
 by_cases h:c;·rw[bM h];exact h1 h
 ·rw[bJ h];exact d h
def oY{P:Cs×Int×Int×Int->Prop}(S:Cs)(x:Act)(c:x.k.tmod 12=0->P ((S.bZ x.a).1,(S.bZ x.a).2.1,0,(S.bZ x.a).2.2))(h1:x.k.tmod 12=1->P ((S.remove x.a).1,0,0,(S.remove x.a).2))(d:x.k.tmod 12=2->P ((S.cf x.a x.b x.c).1,0,0,(S.cf x.a x.b x.c).2))(e:x.k.tmod 12=3->P (S.fresh x.a))(f:x.k.tmod 12=4->P (S.cD (x.kf,x.ki) x.a))(g:x.k.tmod 12=5->P ((S.cb x.b x.a).1,(S.cb x.b x.a).2.1,0,(S.cb x.b x.a).2.2))(h:x.k.tmod 12=6->P (S.copy x.b x.a))(i:x.k.tmod 12=7->P ((S.put x.b x.a (l1 x.c)).1,0,0,(S.put x.b x.a (l1 x.c)).2))(j:x.k.tmod 12=8->P ((S.get x.b x.a).1,(S.get x.b x.a).2.1,0,(S.get x.b x.a).2.2))(k:x.k.tmod 12=9->P ((S.bX x.b x.c).1,0,0,(S.bX x.b x.c).2))(a:x.k.tmod 12=10->P ((S.du x.a).1,(S.du x.a).2,0,0))(b:(¬ x.k.tmod 12=0/\¬ x.k.tmod 12=1/\¬ x.k.tmod 12=2/\¬ x.k.tmod 12=3/\¬ x.k.tmod 12=4/\¬ x.k.tmod 12=5/\¬ x.k.tmod 12=6/\¬ x.k.tmod 12=7/\¬ x.k.tmod 12=8/\¬ x.k.tmod 12=9/\¬ x.k.tmod 12=10)->P ((S.shrink x.a x.c).1,(S.shrink x.a x.c).2,0,0)):P (S.act x):=by
 unfold Cs.act;exact iy c (λl=>iy h1 (λm=>iy d (λn=>iy e (λo=>iy f (λp=>iy g (λn5=>iy h (λn6=>iy i (λn7=>iy j (λn8=>iy k (λn9=>iy a (λn10=>b ⟨l,m,n,o,p,n5,n6,n7,n8,n9,n10⟩)))))))))))
variable{S:Cs}
def Inv.act(h:Inv S)(a:S.bz.next<16777216)(x:Act):Inv (S.act x).1:=by
 exact oY (P:=λr=>Inv r.1) S x (λ_=>h.bZ _) (λ_=>h.remove _) (λ_=>h.cf _ _ _) (λ_=>h.fresh a _) (λ_=>h.cD a _ _) (λ_=>h.cb _ _) (λ_=>h.copy a _ _)
  (λ_=>h.put _ _ _) (λ_=>h.get _ _) (λ_=>h.bX _ _) (λ_=>h.du _) (λ_=>h.shrink _ _)
def IK{t:Int}:∀(l:List (Int×Int)) {S:Cs},Inv S->et S (cq t l S).1
 |[],S,_=>.refl S
 |(g,k)::l,S,h=>by
  have e:∀(n:Nat) {S:Cs},Inv S->et S (dd t [g] n S).1:=by
   intro n;induction n with
   |zero=>intro S _;exact .refl S
   |succ n a=>intro S h;exact(et.cO h t [g] false).trans (a (h.cO t [g] false))
  exact(e k.toNat h).trans (IK l (Inv.dd k.toNat h))
def IL{t:Int}:∀(n:Nat) {S:Cs},Inv S->et S (dE t n S).1
 |0,S,_=>.refl S
 |n+1,S,h=>by
  unfold dE;dsimp only;split;·exact(et.cO h t _ _).trans (IL n (h.cW t))
  ·exact et.cO h t _ _
def rM(h:Inv S)(t n:Int):et S (S.shrink t n).1:=by
 unfold Cs.shrink;split;·exact .refl S
 ·exact(IK _ h).trans (IL _ (Inv.cq _ h))
def IM(h:Inv S)(c:S.bz.next<16777216){g:Int}(e:S.live g=true)(text:List UInt8):S.bz.next<=(S.cN g text).1.bz.next/\(S.cN g text).1.bz.next<=S.bz.next+1:=by
 rcases rH h c e text with⟨S0,a,k,he,_,_⟩|⟨S0,t,k,he⟩
 ·have b:=k.outs.kept h;have d:=k.outs.inv h;have hm:=oe S0.bz (kf:= -1) (ki:=0) (o:=g) ⟨d.ct.next,by rw[b.next];exact c⟩ (.inl bO);have:(S.cN g text).1.bz.next=S.bz.next+1:=by
   rw[he];show(((S0.bz.make (-1) 0 g).1.own S0.bz.next g).1.put S0.bz.next 1 a).1.next=_;have h1:∀(T:TS) (id pl x:Int),(T.put id pl x).1.next=T.next:=by
    intro T id pl x;unfold TS.put;split;·rfl
    ·split;·rfl
     ·split<;>rfl
   rw[h1,(IJ _ _ _).1,hm.2.1,b.next]
  omega
 ·rw[he];have:=(k.outs.kept h).next;show S.bz.next<=S0.bz.next/\S0.bz.next<=_;omega
def yc(h:Inv0 S)(b:∀x p,S.bz.pg x=some p->p.kf<0->p.place≠0)(id g:Int):(S.cb id g).1.bz.next=S.bz.next:=by
 have e:Inv S:=⟨h,b⟩
 cases hp:S.bz.pg id with
 |none=>rw[og h (.inl hp)]
 |some p=>
  cases c:S.live g with
  |false=>rw[og h (.inr (.inl c))]
  |true=>
   by_cases d:p.place=0/\p.kf<0;·rw[og h (.inr (.inr ⟨p,hp,d⟩))]
   ·by_cases h1:p.place=1;·rw[tn h hp h1 c]
    ·rcases rI h b hp c d h1 with⟨S0,a,k,f⟩|⟨S0,t,k,he⟩
     ·exact k.next
     ·rw[he];exact(k.outs.kept e).next
def VR(h:Inv S)(i:S.bz.next<16777216)(x:Act):S.bz.next<=(S.act x).1.bz.next/\(S.act x).1.bz.next<=S.bz.next+1:=by
 have same:∀ {T:TS},T.next=S.bz.next->S.bz.next<=T.next/\T.next<=S.bz.next+1:=λe=>bA
 refine oY (P:=λr=>S.bz.next<=r.1.bz.next/\r.1.bz.next<=S.bz.next+1) S x (λ_=>?_) (λ_=>?_) (λ_=>?_) (λ_=>?_) (λ_=>?_) (λ_=>?_) (λ_=>?_) (λ_=>?_) (λ_=>?_) (λ_=>?_) (λ_=>?_) (λ_=>?_);·refine same ?_;unfold Cs.bZ;dsimp only;split<;>rfl
 ·refine same ?_;unfold Cs.remove;dsimp only;split;·exact(rL _ _ _).1
  ·rfl
 ·refine same ?_;unfold Cs.cf Cs.iV;repeat' split
  all_goals rfl
 ·unfold Cs.fresh;split;·exact same rfl
  ·next a=>exact IM h i (by simpa using a) _
 ·unfold Cs.cD;dsimp only;split;·exact same rfl
  ·next g=>
   have a:S.live x.a=true:=by
    cases b:S.live x.a with
    |true=>rfl
    |false=>exact absurd (.inr b) g
   have hf:ed S.files (x.kf,x.ki)=true:=by
    cases b:ed S.files (x.kf,x.ki)with
    |true=>rfl
    |false=>exact absurd (.inl b) g
   by_cases hm:S.bz.of (x.kf,x.ki)<0
   ·rw[dh hm];simp only[fP];have k:=rJ hf;have l:=oe S.bz (kf:=x.kf) (ki:=x.ki) (o:=x.a) ⟨h.ct.next,i⟩ (.inr hm);have n:=h.toInv0.make i (kf:=x.kf) (ki:=x.ki) a (.inr ⟨hm,hf⟩);have m:fX S.bz x.kf x.ki=(x.kf,x.ki):=by unfold fX;rw[bJ (by have:0<=x.kf:=k;omega)]
    have d:∀y p,(S.bz.make x.kf x.ki x.a).1.pg y=some p->p.kf<0->p.place≠0:=by
     intro y q j c;rw[l.2.2]at j;split at j
     ·rw[<- cQ j,m]at c;have:x.kf<0:=c;have:0<=x.kf:=k;omega
     ·exact h.anon _ _ j c
    have f:=yc n d (S.bz.make x.kf x.ki x.a).2.1 x.a;have f:(Cs.cb {S with bz:=(S.bz.make x.kf x.ki x.a).1} (S.bz.make x.kf x.ki x.a).2.1 x.a).1.bz.next=S.bz.next+1:=by rw[f];exact l.2.1
    have s:∀(T:TS) (id:Int),(T.drop id).1.next=T.next:=by
     intro T id;unfold TS.drop;split;·rfl
     ·split<;>rfl
    split;·rw[f];omega
    ·show _<=((Cs.cb _ _ _).1.bz.drop _).1.next/\((Cs.cb _ _ _).1.bz.drop _).1.next<=_;rw[s,f];omega
   ·rw[c4 hm];simp only[kK,gq];have:=yc h.toInv0 h.anon (S.bz.of (x.kf,x.ki)) x.a;split<;>exact same this
 ·exact same (yc h.toInv0 h.anon _ _)
 ·unfold Cs.copy;dsimp only;split;·exact same rfl
  ·next a=>
   have a:S.live x.a=true:=by
    cases g:S.live x.a with
    |true=>rfl
    |false=>exact absurd (.inr (.inl g)) a
   exact IM h i a _
 ·refine same ?_;unfold Cs.put;dsimp only;split;·rfl
  ·split;·exact(od _ _ _).1
   ·rfl
 ·refine same ?_;unfold Cs.get;dsimp only;split;·rfl
  ·dsimp only;split<;>rfl
 ·refine same ?_;rcases rK h x.b x.c with⟨_,he⟩|⟨p,hp,⟨_,he⟩|⟨_,_,he⟩|⟨_,_,_,_,he,_⟩⟩
  ·rw[he]
  ·rw[he]
  ·rw[he];rfl
  ·exact he
 ·exact same rfl
 ·exact same ((rM h _ _).kept h).next
end Go.Kc
