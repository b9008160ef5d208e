/- A part of the proof. -/
import Derived.Test.YtafigbgagbolgaaGreatDoorD15
set_option linter.all false
set_option maxRecDepth 100000
open Go.IntKind(i64 u64)
namespace Go.Kc
open Go Go.Kt Go.Sp
variable{S S' T:Cs}{id g:Int}{f:Int->Nat}
def Refs(S:Cs)(f:Int->Nat):Prop:=∀x,(S.bt.pg x).map Pg.refs=if f x=0 then none else some (f x:Int)
def sv(S:Cs)(id:Int)(f:Int->Nat):Prop:=(∀x,x≠id->(S.bt.pg x).map Pg.refs=if f x=0 then none else some (f x:Int))/\(S.bt.pg id).map Pg.refs=some (f id:Int)
def Refs.congr(h:Refs S f){f':Int->Nat}(e:∀x,f' x=f x):Refs S f':=λx=>by rw[e];exact h x
def Gw{a b:bX Pg}(h:a.map kr=b.map kr):a.map Pg.refs=b.map Pg.refs:=by
 have:=eO (Option.map λq:Int×Int×Int=>q.2.2) h;rw[xE,xE]at this;exact this
def Refs.gS(h:Refs S f)(s:gH S S'):Refs S' f:=λx=>by rw[Gw (s.kr x)];exact h x
def Refs.pg(h:Refs S f){p:Pg}(hp:S.bt.pg id=some p):p.refs=f id/\0<f id:=by
 have:=h id;rw[hp]at this;by_cases e:f id=0;·rw[bK e]at this;cases this
 ·rw[bJ e]at this;exact⟨cV this,bu⟩
def Refs.some_(h:Refs S f)(a:0<f id):∃p,S.bt.pg id=some p/\p.refs=f id:=by
 have:=h id;rw[cK]at this;cases hp:S.bt.pg id with
 |none=>rw[hp]at this;cases this
 |some p=>rw[hp]at this;exact⟨p,rfl,cV this⟩
def Refs.toP(h:Refs S f)(a:0<f id):sv S id f:=by
 refine⟨λx _=>h x,?_⟩;rw[h id,cK]
def Refs.made(h:Refs S f)(m:Made S S' id):sv S' id f/\f id=0:=by
 have a:f id=0:=by
  have:=h id;rw[m.new]at this;by_cases e:f id=0;·exact e
  ·rw[bJ e]at this;cases this
 refine⟨⟨λx hx=>by rw[Gw (m.Tv x hx)];exact h x,?_⟩,a⟩;obtain⟨p,hp,hr⟩:=m.bL;rw[hp,a,fC,hr];rfl
def w9(h:Inv S)(id n:Int):Base S (S.bP id n).1:=by
 rcases oz h id n with⟨_,he⟩|⟨p,hp,⟨_,he⟩|⟨_,_,he⟩|⟨_,_,_,_,_,_,h1,h2,_,_,a,_⟩⟩
 ·rw[he];exact Base.refl S
 ·rw[he];exact Base.refl S
 ·rw[he];exact⟨rfl,rfl,rfl⟩
 ·exact⟨h1,h2,a⟩
def sv.up(h:Inv S)(r:sv S id f)(hb:f id<1000000000):Refs (S.bP id 1).1 (λx=>if x=id then f x+1 else f x)/\(∀x,(S.bt.pg x).map (λp=>(p.place,p.at_,p.kf,p.ki))=((S.bP id 1).1.bt.pg x).map (λp=>(p.place,p.at_,p.kf,p.ki)))/\(S.bP id 1).1.fr=S.fr/\(S.bP id 1).1.sl=S.sl/\(S.bP id 1).1.files=S.files:=by
 obtain⟨d,a,c⟩:∃p,S.bt.pg id=some p/\p.refs=f id:=by
  have:=r.2;cases hp:S.bt.pg id with
  |none=>rw[hp]at this;cases this
  |some p=>rw[hp]at this;exact⟨p,rfl,cV this⟩
 have hw:i64.wrap (d.refs+1)=(f id:Int)+1:=by rw[c];exact cX bu bu
 rcases oz h id 1 with⟨hn,_⟩|⟨p,hp,⟨b,_⟩|⟨_,_,he⟩|⟨g,_⟩⟩
 ·rw[a]at hn;cases hn
 ·rw[a]at hp;cases hp;rw[hw]at b;omega
 ·rw[a]at hp;cases hp;rw[he];refine⟨λx=>?_,λx=>?_,rfl,rfl,rfl⟩
  ·show(cR S.bt.pg id (some _) x).map Pg.refs=if(if x=id then f x+1 else f x)=0 then none else some (((if x=id then f x+1 else f x):Nat):Int)
   by_cases e:x=id
   ·subst e;rw[kn,bK rfl,cK,fC];show some (i64.wrap (d.refs+1))=_;rw[hw];rfl
   ·rw[dm _ _ e,bJ e];exact r.1 x e
  ·show _=(cR S.bt.pg id (some _) x).map _;by_cases e:x=id;·subst e;rw[kn,a];rfl
   ·rw[dm _ _ e]
 ·rw[a]at hp;cases hp;rw[hw]at g;omega
def Refs.down(h:Inv S)(r:Refs S f)(i:0<f id)(hb:f id<1000000000):Refs (S.bP id (-1)).1 (λx=>if x=id then f x-1 else f x):=by
 obtain⟨g,a,d⟩:=r.some_ i;have hw:i64.wrap (g.refs+ -1)=(f id:Int)-1:=by rw[d];exact cX bu bu
 rcases oz h id (-1)with⟨hn,_⟩|⟨p,hp,⟨b,_⟩|⟨h1,_,he⟩|⟨h1,_,_,_,_,c,_⟩⟩
 ·rw[a]at hn;cases hn
 ·rw[a]at hp;cases hp;rw[hw]at b;omega
 ·rw[a]at hp;cases hp;rw[he];intro x;show(cR S.bt.pg id (some _) x).map Pg.refs=if(if x=id then f x-1 else f x)=0 then none else some (((if x=id then f x-1 else f x):Nat):Int)
  by_cases e:x=id
  ·subst e;rw[hw]at h1;rw[kn,bK rfl,cK,fC];show some (i64.wrap (g.refs+ -1))=_;rw[hw];congr 1;omega
  ·rw[dm _ _ e,bJ e];exact r x
 ·rw[a]at hp;cases hp;intro x;show _=if(if x=id then f x-1 else f x)=0 then none else some (((if x=id then f x-1 else f x):Nat):Int)
  rw[c];by_cases e:x=id
  ·subst e;rw[hw]at h1;rw[bK rfl,bK rfl,eV];rfl
  ·rw[bJ e,bJ e];exact r x
end Go.Kc
namespace Go.Kw
open Go Go.Kc Go.Kt Go.Sp
def Gx:∀(ids:bS) {S:Cs} {f:Int->Nat},Kc.Inv S->S.bt.next<=16777216->Refs S f->(∀x,ids.count x<=f x)->(∀x,f x<1000000000)->Refs (ep ids S) (λx=>f x-ids.count x)/\Base S (ep ids S)
 |[],S,f,_,_,r,_,_=>⟨r,Base.refl S⟩
 |y::l,S,f,d,hn,r,b,hb=>by
  have g:0<f y:=by have:=b y;rw[xu]at this;omega
  have h:=r.down d g (hb y);have a:=d.bP y (-1);have c:(S.bP y (-1)).1.bt.next<=16777216:=a.ids;obtain⟨i,b2⟩:=Gx l a c h (λx=>by
   have:=b x;by_cases e:x=y;·subst e;rw[xu]at this;rw[bK rfl];omega
   ·rw[xr (l3 e)]at this;rw[bJ e];exact this) (λx=>by have:=hb x;split<;>omega)
  refine⟨i.congr λx=>?_,(w9 d y (-1)).trans b2⟩;by_cases e:x=y;·subst e;rw[xu,bK rfl];omega
  ·rw[xr (l3 e),bJ e]
def Tz:∀(ids:bS) {S:Cs} {f:Int->Nat},Kc.Inv S->S.bt.next<=16777216->Refs S f->(∀x∈ids,0<f x)->(∀x,f x+ids.length<1000000000)->Refs (dN ids S) (λx=>f x+ids.count x)/\Base S (dN ids S)
 |[],S,f,_,_,r,_,_=>⟨r,Base.refl S⟩
 |y::l,S,f,d,hn,r,b,hb=>by
  have g:0<f y:=b y fS;have h:=((r.toP g).up d (by have:=hb y;omega)).1;have a:=d.bP y 1;have c:(S.bP y 1).1.bt.next<=16777216:=a.ids;obtain⟨i,b2⟩:=Tz l a c h (λx hx=>by have:=b x (gn _ hx);split<;>omega) (λx=>by have:=hb x;rw[hN]at this;split<;>omega);refine⟨i.congr λx=>?_,(w9 d y 1).trans b2⟩;by_cases e:x=y;·subst e;rw[xu,bK rfl];omega
  ·rw[xr (l3 e),bJ e]
def fK(s:Sp):bS:=s.cI.map λq=>(q.2.id:Int)
def kd(p:PP):bS:=match p.2 with|some s=>fK s|none=>[]
def eY(l:bA PP):bS:=l.flatMap kd
def uw{s:Sp}(h:fR s):s.ids 0 65536=fK s:=by
 unfold Sp.ids fK;rw[xw.2 λq a=>?_];have:=(h.cI.low q a).1;unfold hI;simp;omega
def oy{x:Int}:∀ {l:bA PP} {i:Nat} {p p':PP},l[i]?=some p->(eY (l.set i p')).count x+(kd p).count x=(eY l).count x+(kd p').count x
 |q::l,0,p,p',h=>by
  have h:q=p:=by simpa using h
  subst h;show((kd p'++eY l).count x)+_=(kd q++eY l).count x+_;rw[rp,rp];omega
 |q::l,i+1,p,p',h=>by
  have:=oy (x:=x) (l:=l) (i:=i) (p:=p) (p':=p') (by simpa using h);show((kd q++eY (l.set i p')).count x)+_=(kd q++eY l).count x+_;rw[rp,rp];omega
def count_le{x:Int}{l:bA PP}{i:Nat}{p:PP}(h:l[i]?=some p):(kd p).count x<=(eY l).count x:=by
 have:=oy (x:=x) (p':=(0,none)) h;have a:(kd (0,none)).count x=0:=rfl;omega
def A3{x:Int}:∀ {l:bA PP},(∀(i:Nat) g s,l[i]?=some (g,some s)->fR s)->(eY l).count x<=65536*l.length
 |[],_=>dX _
 |q::l,h=>by
  have h1:=A3 (x:=x) (l:=l) λi g s a=>h (i+1) g s (by simpa using a);show(kd q++eY l).count x<=_;rw[rp,hN];have h2:(kd q).count x<=65536:=by
   refine lv Ui ?_;obtain⟨g,o⟩:=q;cases o with
   |none=>exact dX _
   |some s=>show(s.cI.map _).length<=_;rw[dY];exact Go.Mp.gh (h 0 g s rfl).cI
  omega
def Kf(S S':Cs):Prop:=∀x q,S'.bt.pg x=some q->∃p,S.bt.pg x=some p/\q.kf=p.kf
def Kf.trans{A B C:Cs}(h:Kf A B)(k:Kf B C):Kf A C:=λx q b=>by
 obtain⟨p,hp,e⟩:=k x q b;obtain⟨r,hr,a⟩:=h x p hp;exact⟨r,hr,e.trans a⟩
def Kf.of{S S':Cs}(s:gH S S'):Kf S S':=λx q a=>by
 cases hp:S.bt.pg x with
 |none=>rw[s.none_.2 hp]at a;cases a
 |some p=>
  obtain⟨r,hr,e,_⟩:=s.bL hp;rw[hr]at a;cases a;exact⟨p,rfl,e⟩
def Kf.bP{S:Cs}(h:Kc.Inv S)(id n:Int):Kf S (S.bP id n).1:=λx q a=>by
 rcases oz h id n with⟨_,he⟩|⟨p,hp,⟨_,he⟩|⟨_,_,he⟩|⟨_,_,_,_,_,b,_⟩⟩
 ·rw[he]at a;exact⟨q,a,rfl⟩
 ·rw[he]at a;exact⟨q,a,rfl⟩
 ·rw[he]at a;have a:cR S.bt.pg id (some _) x=some q:=a;by_cases e:x=id;·subst e;rw[kn]at a;cases a;exact⟨p,hp,rfl⟩
  ·rw[dm _ _ e]at a;exact⟨q,a,rfl⟩
 ·rw[b]at a;split at a;·cases a
  ·exact⟨q,a,rfl⟩
def Kf.ep:∀(ids:bS) {S:Cs},Kc.Inv S->Kf S (ep ids S)
 |[],_,_=> λ_ q a=>⟨q,a,rfl⟩
 |y::l,S,b=>(Kf.bP b y (-1)).trans (Kf.ep l (b.bP y (-1)))
def lY(P:bA PP):Prop:=∀(i:Nat) g s q e,P[i]?=some (g,some s)->s.entry q=some e->(s.cB q).isSome=true
structure dS(V:Vs):Prop extends Vok V where
 refs:Refs V.core λx=>(eY V.procs).count x
 hs:lY V.procs
 own:∀(i:Nat) g s q e x,V.procs[i]?=some (g,some s)->s.entry q=some e->s.cB q=some x->x.kind≠2->∀p,V.core.bt.pg e.id=some p->p.kf<0
def dS.small{V:Vs}(h:dS V)(x:Int):(eY V.procs).count x<1000000000:=by
 have:=A3 (x:=x) h.sp;have:=h.eI;omega
def dS.new(a b:Int)(l:bS):dS (Vs.new a b l):=⟨⟨Inv.new a b l,(λi g s h=>by cases h),by show(0:Nat)<=64;decide⟩,λx=>rfl,(λi g s q e h=>by cases h),λi g s q e x h=>by cases h⟩
def hW(K:bS)(l:bA PP):bA PP:=l.mapIdx λi p=>if(i:Int)∈K then(p.1,none)else p
def Gy(l:bA PP):hW [] l=l:=by
 unfold hW;apply gJ;intro i;rw[Uj];cases l[i]? <;>simp
def pE(K:bS)(l:bA PP)(i:Nat):(hW K l)[i]?=(l[i]?).map λp=>if(i:Int)∈K then(p.1,none)else p:=by unfold hW;rw[Uj]
def TA(K:bS)(l:bA PP):(hW K l).length=l.length:=by unfold hW;rw[List.length_mapIdx]
def Gz(K M:bS)(l:bA PP):hW M (hW K l)=hW (K++M) l:=by
 apply gJ;intro i;rw[pE,pE,pE,xE];cases l[i]? with
 |none=>rfl
 |some p=>
  simp only[fC,Function.comp,gb];by_cases h1:(i:Int)∈K<;>by_cases h2:(i:Int)∈M<;>simp[h1,h2]
def dS.exit{V:Vs}(h:dS V)(pid:Int):dS (V.exit pid)/\Base V.core (V.exit pid).core/\(V.exit pid).procs=hW [pid] V.procs:=by
 cases d:V.space pid with
 |none=>
  rw[Ga d];refine⟨h,Base.refl _,?_⟩;apply gJ;intro i;rw[pE];cases a:V.procs[i]? with
  |none=>rfl
  |some p=>
   rw[fC];by_cases e:(i:Int)∈ [pid]
   ·rw[bK e];rw[h9]at e;obtain⟨g,o⟩:=p;have:=(iY a).1;rw[e,d]at this;rw[<- this]
   ·rw[bJ e]
 |some s=>
  rw[wW d];obtain⟨n,hp⟩:=il d;have f:=h.sp _ _ _ hp;have c:=(c2.1 hp).1;have j:∀x,(eY (V.procs.set pid.toNat (V.group pid,none))).count x+(fK s).count x=(eY V.procs).count x:=λx=>by
   have:=oy (x:=x) (p':=(V.group pid,none)) hp;exact this
  obtain⟨r,b⟩:=Gx (s.ids 0 65536) h.inv h.inv.ids h.refs (λx=>by rw[uw f];have:=j x;omega) h.small;have m:=((w7 (s.ids 0 65536) V.core).inv h.inv (by have:=h.inv.ids;omega)).1;refine⟨⟨⟨m,λi g s' a=>?_,by show(V.procs.set _ _).length<=64;rw[eh];exact h.eI⟩,r.congr λx=>?_,λi g s' q e a he=>?_,λi g s' q e x a he hw hk pg l=>?_⟩,b,?_⟩
  ·have a:(V.procs.set pid.toNat (V.group pid,none))[i]?=some (g,some s'):=a;rw[hv]at a;split at a
   ·try rw[bK c]at a
    cases a
   ·exact h.sp _ _ _ a
  ·show(eY (V.procs.set pid.toNat (V.group pid,none))).count x=_;rw[uw f];have:=j x;omega
  ·have a:(V.procs.set pid.toNat (V.group pid,none))[i]?=some (g,some s'):=a;rw[hv]at a;split at a
   ·try rw[bK c]at a
    cases a
   ·exact h.hs _ _ _ _ _ a he
  ·have a:(V.procs.set pid.toNat (V.group pid,none))[i]?=some (g,some s'):=a;obtain⟨t,k,e0⟩:=Kf.ep (s.ids 0 65536) h.inv _ _ l;rw[hv]at a;split at a
   ·try rw[bK c]at a
    cases a
   ·rw[e0];exact h.own _ _ _ _ _ _ a he hw hk _ k
  ·show V.procs.set pid.toNat (V.group pid,none)=_;apply gJ;intro i;rw[pE,hv];by_cases e:pid.toNat=i
   ·subst e;rw[bK rfl,bK c,hp,fC,bK (by rw[h9];omega)]
   ·rw[bJ e];cases V.procs[i]? with
    |none=>rfl
    |some p=>rw[fC,bJ (by rw[h9];omega)]
def dS.dg:∀(K:bS) {V:Vs},dS V->dS (V.dg K)/\Base V.core (V.dg K).core/\(V.dg K).procs=hW K V.procs
 |[],V,h=>⟨h,Base.refl _,(Gy _).symm⟩
 |x::K,V,h=>by
  obtain⟨h1,b1,a⟩:=h.exit x;obtain⟨h2,b2,b⟩:=dS.dg K h1;refine⟨h2,b1.trans b2,?_⟩;rw[show V.dg (x::K)=(V.exit x).dg K from rfl,b,a,Gz];rfl
end Go.Kw
namespace Go.Kw
open Go Go.Kc Go.Kt
variable{V V':Vs}{pid p:Int}{s:Sp}
def dS.core(h:dS V){S:Cs}(s:gH V.core S)(c:Kc.Inv S):dS {V with core:=S} :=by
 refine⟨⟨c,h.sp,h.eI⟩,h.refs.gS s,h.hs,λi g s' q e x b he hw hk p hp=>?_⟩;obtain⟨d,a,e0⟩:=Kf.of s _ _ hp;rw[e0];exact h.own _ _ _ _ _ _ b he hw hk _ a
structure h7(V:Vs)(K:bS):Prop where
 nodup:K.Nodup
 live:∀x∈K,∃s,V.space x=some s
def ux{K:bS}(hp:V'.procs=hW K V.procs)(i:Int):V'.space i=if i∈K then none else V.space i:=by
 unfold Vs.space;by_cases a:0<=i
 ·rw[bK a,bK a,hp,pE,show((i.toNat:Nat):Int)=i by omega];cases V.procs[i.toNat]? with
  |none=>split<;>rfl
  |some p=>rw[fC];split<;>rfl
 ·rw[bJ a,bJ a];split<;>rfl
def h7.nil(V:Vs):h7 V []:=⟨Hz,λ_ h=>by cases h⟩
def h7.app{K M:bS}(h:h7 V K)(hp:V'.procs=hW K V.procs)(k:h7 V' M):h7 V (K++M):=by
 have c:=ux hp;refine⟨uJ.2 ⟨h.nodup,k.nodup,λa d b hb e=>?_⟩,λx hx=>?_⟩
 ·subst e;obtain⟨s,e⟩:=k.live a hb;rw[c,bK d]at e;cases e
 ·rcases gb.1 hx with hx|hx;·exact h.live x hx
  ·obtain⟨s,e⟩:=k.live x hx;rw[c]at e;split at e;·cases e
   ·exact⟨s,e⟩
inductive xa(f:Cs->Int->Cs×Int×Int×Int)(pid:Int)(n:Nat)(V:Vs)(o:cG)(q:Vs×cG×bX Int):Prop
 |ok (K:bS) (V':Vs) (hK:h7 V K) (hp:V'.procs=hW K V.procs) (eu:pid∉K) (h:dS V') (hn:V'.core.bt.next+1<=V.core.bt.next+n) (b:Base V.core V'.core) (e0:(f V'.core (V'.group pid)).2.2.2=0)
   (e:q=({V' with core:=(f V'.core (V'.group pid)).1}, {o with bE:=o.bE++K},some (f V'.core (V'.group pid)).2.1)) (h1:K= []->V'=V) (h2:K≠ []->(f V.core (V.group pid)).2.2.2=12)
 |no (K:bS) (V':Vs) (err:Int) (hK:h7 V K) (hp:V'.procs=hW K V.procs) (h:dS V') (b:Base V.core V'.core) (e:q=(V', {o with bE:=o.bE++K,err:=err},none))
   (he:(err=12/\pid∉K)\/(err=13/\pid∈K)\/(err≠0/\err≠12/\pid∉K/\∃V0:Vs,dS V0/\V0.procs=V'.procs/\Base V.core V0.core/\V0.core.bt.next+1<=V.core.bt.next+n/\f V0.core (V0.group pid)=(V'.core,(f V0.core (V0.group pid)).2)/\(f V0.core (V0.group pid)).2.2.2=err/\(K= []->V0=V)/\(K≠ []->(f V.core (V.group pid)).2.2.2=12)))
def aGt{x t:Int}(h:x∈dead V t):∃s,V.space x=some s:=Gd h
def uy{K:bS}(hp:V'.procs=hW K V.procs)(i:Int):V'.group i=V.group i:=by
 unfold Vs.group;rw[hp,dC,dC,pE];cases V.procs[i.toNat]? with
 |none=>rfl
 |some p=>rw[fC];show(if _ then _ else _:PP).1=_;split<;>rfl
def TB{f:Cs->Int->Cs×Int×Int×Int}(hf:∀S g,Path 1 S (f S g).1)(y:∀S g,Kc.Inv S->S.bt.next<16777216->(f S g).2.2.2≠0->gH S (f S g).1/\((f S g).2.2.2=12->(f S g).1.bt.next<=S.bt.next+1)):
  ∀(n:Nat) (V:Vs) (o:cG),dS V->V.core.bt.next+n<16777216->jl V.procs<n->(V.space pid).isSome=true->xa f pid n V o (fH f pid n V o)
 |0,V,o,_,_,hl,_=>absurd hl (Nat.not_lt_zero _)
 |n+1,V,o,h,hn,hl,z=>by
  rw[nq];dsimp only;obtain⟨r,hr⟩:∃r,f V.core (V.group pid)=r:=⟨_,rfl⟩
  have t:=(hf V.core (V.group pid)).inv h.inv bu;have m:=y V.core (V.group pid) h.inv bu;rw[hr]at t m ⊢;by_cases e0:r.2.2.2=0
  ·rw[bK e0];exact .ok [] V (h7.nil V) (Gy _).symm (by simp) h bu (Base.refl _) (by rw[hr];exact e0) (by rw[hr,g3]) (λ_=>rfl) (λe=>absurd rfl e)
  rw[bJ e0];obtain⟨s1,_⟩:=m e0;have h1:dS {V with core:=r.1} :=h.core s1 t.1;by_cases j:r.2.2.2≠12
  ·rw[bK j];exact .no [] {V with core:=r.1} r.2.2.2 (h7.nil V) (Gy _).symm h1 s1.toBase (by rw[g3]) (.inr (.inr ⟨e0,j,by simp,V,h,rfl,Base.refl _,bu,by rw[hr],by rw[hr],λ_=>rfl,λe=>absurd rfl e⟩))
  rw[bJ j];obtain⟨d,q⟩:∃d,dead {V with core:=r.1} r.2.2.1=d:=⟨_,rfl⟩
  have hk:h7 V d:=⟨by rw[<- q];exact SX _ _ _ _,λx hx=>by rw[<- q]at hx;exact aGt (V:={V with core:=r.1}) hx⟩
  obtain⟨h2,b2,p2⟩:=dS.dg d h1;have v:=(Gt d {V with core:=r.1}).inv t.1 (by show r.1.bt.next+0<=_;omega);have J:(Vs.dg {V with core:=r.1} d).core.bt.next<=r.1.bt.next+0:=v.2.2;rw[q];have p2:(Vs.dg {V with core:=r.1} d).procs=hW d V.procs:=p2;split
  ·next i=>
   refine .no d _ 12 hk p2 h2 (s1.toBase.trans b2) rfl (.inl ⟨rfl,by rw[i];simp⟩)
  next i=>
  split;·next eu=>exact .no d _ 13 hk p2 h2 (s1.toBase.trans b2) rfl (.inr (.inl ⟨rfl,eu⟩))
  next eu=>
  have I:jl (Vs.dg {V with core:=r.1} d).procs<jl V.procs:=by
   obtain⟨x,l,rfl⟩:=List.exists_cons_of_ne_nil i;have:=hk.live x fS;exact SL (V:={V with core:=r.1}) (by obtain⟨s,e⟩:=this;exact(show Vs.space {V with core:=r.1} x=some s from e)▸rfl)
  have u:((Vs.dg {V with core:=r.1} d).space pid).isSome=true:=by rw[ux p2,bJ eu];exact z
  have k:r.2.2.2=12:=by omega
  rcases TB hf y n (Vs.dg {V with core:=r.1} d) {o with bE:=o.bE++d} h2 bu bu u with⟨K,W,hK,hp,w,p,H,b,f0,e,N,O⟩|⟨K,W,err,hK,hp,p,b,e,he⟩
  ·refine .ok (d++K) W (hk.app p2 hK) (by rw[hp,p2,Gz]) (by rw[gb];exact λx=>x.elim eu w) p bu ((s1.toBase.trans b2).trans b) f0 ?_ (λe=>absurd (xq.1 e).1 i) (λ_=>by rw[hr];exact k);rw[e];dsimp only;rw[dp]
  ·refine .no (d++K) W err (hk.app p2 hK) (by rw[hp,p2,Gz]) p ((s1.toBase.trans b2).trans b) ?_ ?_
   ·rw[e];dsimp only;rw[dp]
   ·rcases he with⟨a,c⟩|⟨a,c⟩|⟨A,B,a3,V0,C,D,E,L,F,G,M⟩
    ·exact .inl ⟨a,by rw[gb];exact λx=>x.elim eu c⟩
    ·exact .inr (.inl ⟨a,gb.2 (.inr c)⟩)
    ·exact .inr (.inr ⟨A,B,by rw[gb];exact λx=>x.elim eu a3,V0,C,D,(s1.toBase.trans b2).trans E,bu,F,G,λe=>absurd (xq.1 e).1 i,λ_=>by rw[hr];exact k⟩)
def A4{f:Cs->Int->Cs×Int×Int×Int}(hf:∀S g,Path 1 S (f S g).1)(b:∀S g,Kc.Inv S->S.bt.next<16777216->(f S g).2.2.2≠0->gH S (f S g).1)(h:dS V)(hn:V.core.bt.next+(V.procs.length+1)<16777216)(a:(V.space pid).isSome=true)(o:cG):xa f pid (V.procs.length+1) V o (V.dW f pid o):=by
 refine TB hf (λS g c hx he=>⟨b S g c hx he,λ_=>?_⟩) _ V o h bu (Nat.lt_succ_of_le Ba) a;exact((hf S g).inv c bu).2.2
def one(x y:Int):Nat:=if x=y then 1 else 0
def GA{p:Nat}{e:En}(x:Int):∀ {T:c7},T.Pairwise (λx y=>x.1<y.1)->((fa T p e).map λq=>(q.2.id:Int)).count x+(match dV T p with|some f=>one x f.id|none=>0)=(T.map λq=>(q.2.id:Int)).count x+one x e.id
 |[],_=>by
  show([(e.id:Int)].count x)+0=0+one x e.id;unfold one;by_cases h:x=(e.id:Int)
  ·rw[bK h,h];simp
  ·rw[bJ h,xr (l3 h)];rfl
 |(k,f)::T,h=>by
  obtain⟨h1,h2⟩:=ht.1 h;have c:∀(a:Int) (l:bS),(a::l).count x=l.count x+one x a:=λa l=>by
   unfold one;by_cases h:x=a;·subst h;rw[xu,bK rfl]
   ·rw[xr (l3 h),bJ h,l2]
  by_cases g:p<k
  ·have b:dV ((k,f)::T) p=none:=by
    cases b:dV ((k,f)::T) p with
    |none=>rfl
    |some y=>
     have:=tT b;rcases eH.1 this with h|h;·cases h;omega
     ·have:=h1 _ h;have:k<p:=this;omega
   rw[b];unfold fa;rw[bK g,kB,c];rfl
  by_cases d:p=k
  ·have b:dV ((k,f)::T) p=some f:=by unfold dV;rw[bK d.symm]
   rw[b];unfold fa;rw[bJ g,bK d,kB,kB,c,c];dsimp only;omega
  ·have b:dV ((k,f)::T) p=dV T p:=by show(if k=p then some f else dV T p)=_;rw[bJ (l3 d)]
   rw[b];unfold fa;rw[bJ g,bJ d,kB,kB,c,c];have:=GA (p:=p) (e:=e) x h2;omega
def aC6(h:fR s){e:En}(he:s.entry p=some e):0<(fK s).count (e.id:Int):=by
 have:=tT (h.entry he).2.2.2;exact Ur.2 (fD.2 ⟨_,this,rfl⟩)
def GB(h:dS V)(a:V.space pid=some s){e:En}(he:s.entry p=some e):0<(eY V.procs).count (e.id:Int):=by
 obtain⟨_,hp⟩:=il a;exact lr (aC6 (h.sp _ _ _ hp) he) (count_le hp)
def GC(h:dS V)(b:V.space pid=some s){e:En}(he:s.entry p=some e):∃q,V.core.bt.pg e.id=some q:=by
 obtain⟨q,a,_⟩:=h.refs.some_ (GB h b he);exact⟨q,a⟩
inductive pF(V:Vs)(pid p:Int)(s:Sp)(o:cG)(q:Vs×cG×bX Int):Prop
 |ok (K:bS) (V1:Vs) (id:Int) (s1:Sp) (e:En) (hK:h7 V K) (eu:pid∉K) (h:dS V1) (hp:V1.procs=(hW K V.procs).set pid.toNat (V.group pid,some s1)) (hr:s1.dz=s.dz) (he:s1.entry p=some e) (eD:(e.id:Int)=id)
   (x:Pg) (hx:V1.core.bt.pg id=some x) (h1:x.place=1) (b:Base V.core V1.core) (e:q=(V1, {o with bE:=o.bE++K},some id))
 |no (K:bS) (V':Vs) (err:Int) (hK:h7 V K) (hp:V'.procs=hW K V.procs) (h:dS V') (b:Base V.core V'.core) (e:q=(V', {o with bE:=o.bE++K,err:=err},none))
   (he:(err=12/\pid∉K)\/(err=13/\pid∈K)\/(err=2/\K= []/\V'=V))
def fJ{l:bA PP}{i:Nat}{p:PP}(h:l[i]?=some p):l.set i p=l:=by
 apply gJ;intro j;rw[hv];split
 ·next e=>
  subst e;rw[bK (c2.1 h).1,h]
 ·rfl
def TC{K:bS}(a:V.space pid=some s)(eu:pid∉K):(hW K V.procs)[pid.toNat]?=some (V.group pid,some s):=by
 obtain⟨b,hp⟩:=il a;rw[pE,hp,fC,bJ (by rw[show((pid.toNat:Nat):Int)=pid by omega];exact eu)]
def Base.ke{S S':Cs}(b:Base S S'){g:Int}(h:S'.live g=false)(k:S.live g=true):False:=by rw[b.live,k]at h;cases h
def TD(h:dS V)(hn:V.core.bt.next+(V.procs.length+1)<16777216)(v:V.space pid=some s){e:En}(he:s.entry p=some e)(o:cG):pF V pid p s o (V.bY pid e.id o):=by
 have hb:∀S g,Path 1 S ((λ(S:Cs) g=>let r:=S.bY e.id g;(r.1,(e.id:Int),r.2)) S g).1:=λS g=>(Path.bY _ g).up bu;have C:∀W:Vs,dS W->∀K,W.procs=hW K V.procs->pid∉K->∃q,W.core.bt.pg e.id=some q:=λW j K hp hK=>GC j (by rw[ux hp,bJ hK];exact v) he;rcases A4 (f:=λ(S:Cs) g=>let r:=S.bY e.id g;(r.1,(e.id:Int),r.2)) hb (λS g M _ _=>(M.h6 e.id g).1) h hn (by rw[v];rfl) o with⟨K,W,hK,hp,eu,j,L,b,f0,m,_⟩|⟨K,W,err,hK,hp,j,b,m,A⟩
 ·obtain⟨D,n⟩:=j.inv.h6 e.id (W.group pid);dsimp only at f0 m;rcases n with⟨x,hx,h1,a,_⟩|⟨a,_⟩|⟨a,_⟩
  ·refine .ok K _ e.id s e hK eu (j.core D (j.inv.bY _ _)) ?_ rfl he rfl x hx h1 (b.trans D.toBase) m;rw[fJ (TC v eu)];exact hp
  ·rw[a]at f0;cases f0
  ·rw[a]at f0;cases f0
 ·refine .no K W err hK hp j b m ?_;rcases A with h1|h1|⟨E,F,a3,V0,y,l,G,_,t,i,H,u⟩
  ·exact .inl h1
  ·exact .inr (.inl h1)
  ·refine .inr (.inr ?_);dsimp only at t i u;obtain⟨_,n⟩:=y.inv.h6 e.id (V0.group pid);rcases n with⟨x,hx,h1,a,_⟩|⟨a,_⟩|⟨a,c⟩
   ·rw[a]at i;exact absurd i.symm E
   ·rw[a]at i;exact absurd i.symm F
   ·rw[a]at i t;have d:K= []:=by
     refine sA λd=>?_;obtain⟨_,w⟩:=h.inv.h6 e.id (V.group pid);rcases w with⟨x,hx,h1,k,_⟩|⟨_,B,_⟩|⟨k,_⟩
     ·have:=u d;rw[k]at this;cases this
     ·rcases c with c|c
      ·obtain⟨q,I⟩:=C V0 y K (by rw[l];exact hp) a3;rw[I]at c;cases c
      ·rw[show V0.group pid=V.group pid from uy (K:=K) (by rw[l];exact hp) pid]at c;exact Base.ke G c B
     ·have:=u d;rw[k]at this;cases this
    refine⟨i.symm,d,?_⟩;have J:=H d;subst J;have z:W.core=V0.core:=by
     have:=eO Prod.fst t;exact this.symm
    cases W;cases V0;dsimp only at z l;rw[z,l]
def TE{W:Vs}{S:Cs}{id:Int}{k:Nat}{wr:Bool}(j:dS W)(t:Kc.Inv S)(b:Base W.core S)(o:W.space pid=some s)(hw:(s.cB p).isSome=true)(eD:0<=id/\id<16777216)(hk:k=1\/k=2)(hr:sv S id λx=>(eY W.procs).count x){s1:Sp}(h:s1=s.enter p id k wr):
  ∃V1:Vs,Vs.enter {W with core:=S} pid p id k wr=V1/\V1.procs=W.procs.set pid.toNat (W.group pid,some s1)/\V1.core=(S.bP id 1).1/\Kc.Inv V1.core/\Base W.core V1.core/\s1.dz=s.dz/\s1.entry p=some ⟨k,id.toNat,wr,false⟩/\
   (∀(i:Nat) g s,V1.procs[i]?=some (g,some s)->fR s)/\V1.procs.length<=64/\Refs V1.core (λx=>(eY W.procs).count x+one x id)/\(∀x,(eY V1.procs).count x+(match s.entry p with|some f=>one x f.id|none=>0)=(eY W.procs).count x+one x id)/\
   (∀x,(S.bt.pg x).map (λp=>(p.place,p.at_,p.kf,p.ki))=(V1.core.bt.pg x).map (λp=>(p.place,p.at_,p.kf,p.ki)))/\V1.core.fr=S.fr/\V1.core.sl=S.sl/\V1.core.files=S.files:=by
 obtain⟨F,hp⟩:=il o;have a:=j.sp _ _ _ hp;obtain⟨G,r⟩:=jf.1 hw;have l:=tX a r;have c:s1= {s with cI:=fa s.cI p.toNat ⟨k,id.toNat,wr,false⟩} :=by rw[h];unfold Sp.enter;rw[bK ⟨hw,eD.1,eD.2⟩]
 have n:=(c2.1 hp).1;obtain⟨z,pl,v,w,y⟩:=hr.up t (j.small id);have heq:Vs.enter {W with core:=S} pid p id k wr=⟨(S.bP id 1).1,W.procs.set pid.toNat (W.group pid,some s1)⟩:=by
  unfold Vs.enter;dsimp only;rw[show Vs.space {core:=(S.bP id 1).1,procs:=W.procs} pid=some s from o,h];rfl
 have m:∀x,(eY (W.procs.set pid.toNat (W.group pid,some s1))).count x+(match s.entry p with|some f=>one x f.id|none=>0)=(eY W.procs).count x+one x id:=λx=>by
  have A:=oy (x:=x) (p':=(W.group pid,some s1)) hp;have B:=GA (p:=p.toNat) (e:=⟨k,id.toNat,wr,false⟩) x a.cI.c1;have C:(kd (W.group pid,some s1)).count x=((fa s.cI p.toNat ⟨k,id.toNat,wr,false⟩).map λq=>(q.2.id:Int)).count x:=by rw[c];rfl
  have D:(kd (W.group pid,some s)).count x=(s.cI.map λq=>(q.2.id:Int)).count x:=rfl;have u:s.entry p=dV s.cI p.toNat:=by unfold Sp.entry;rw[bK l.1]
  have E:one x (((⟨k,id.toNat,wr,false⟩:En).id:Nat):Int)=one x id:=by show one x ((id.toNat:Nat):Int)=_;rw[show((id.toNat:Nat):Int)=id by omega]
  rw[u];omega
 refine⟨_,heq,rfl,rfl,t.bP id 1,b.trans (w9 t id 1),by rw[c],?_,λi g s' d=>?_,by rw[eh];exact j.eI,z.congr λx=>?_,m,pl,v,w,y⟩
 ·rw[c];unfold Sp.entry;rw[bK l.1];dsimp only;rw[we a.cI.c1,bK rfl]
 ·rw[hv]at d;split at d
  ·try rw[bK n]at d
   cases d;rw[h];exact a.enter hk
  ·exact j.sp _ _ _ d
 ·show _=if x=id then(eY W.procs).count x+1 else(eY W.procs).count x
  unfold one;split<;>rfl
end Go.Kw
namespace Go.Kw
open Go Go.Kc Go.Kt Go.Sp
variable{V V':Vs}{pid p:Int}{s:Sp}
def fX(P:bA PP)(S:Cs):Prop:=∀(i:Nat) g s q e x,P[i]?=some (g,some s)->s.entry q=some e->s.cB q=some x->x.kind≠2->∀p,S.bt.pg e.id=some p->p.kf<0
def fX.kf{P:bA PP}{S S':Cs}(h:fX P S)(k:Kf S S'):fX P S':=λi g s q e x b he hw hx p hp=>by
 obtain⟨c,a,e0⟩:=k _ _ hp;rw[e0];exact h i g s q e x b he hw hx _ a
def fX.made{W:Vs}{S:Cs}{id:Int}(h:dS W)(m:Made W.core S id):fX W.procs S:=λi g s q e x b he hw hx p hp=>by
 by_cases eD:(e.id:Int)=id
 ·exfalso;obtain⟨r,hr⟩:=GC h (pid:=(i:Int)) (iY b).1 he;rw[eD,m.new]at hr;cases hr
 ·have:=m.Tv _ eD;rw[hp]at this;cases a:W.core.bt.pg e.id with
  |none=>rw[a]at this;cases this
  |some c=>
   rw[a]at this;have e0:kr p=kr c:=cV this;unfold kr at e0;simp only[oU]at e0;rw[e0.1];exact h.own _ _ _ _ _ _ b he hw hx _ a
def fX.kg{P:bA PP}{S:Cs}{n:Nat}{g:Int}{s1:Sp}(h:fX P S)(h1:∀q e x,s1.entry q=some e->s1.cB q=some x->x.kind≠2->∀p,S.bt.pg e.id=some p->p.kf<0):fX (P.set n (g,some s1)) S:=λi b s q e x a he hw hx p hp=>by
 rw[hv]at a;split at a
 ·split at a;·cases a;exact h1 q e x he hw hx p hp
  ·cases a
 ·exact h i b s q e x a he hw hx p hp
def lY.kg{P:bA PP}{n:Nat}{g:Int}{s1:Sp}(h:lY P)(h1:∀q e,s1.entry q=some e->(s1.cB q).isSome=true):lY (P.set n (g,some s1)):=λi b s q e a he=>by
 rw[hv]at a;split at a
 ·split at a;·cases a;exact h1 q e he
  ·cases a
 ·exact h i b s q e a he
def xb{s s1:Sp}(h:s1.dz=s.dz)(p:Int):s1.cB p=s.cB p:=by unfold Sp.cB;rw[h]
def A5(a:fR s){id:Int}{k:Nat}{wr:Bool}{q:Int}{e:En}(he:(s.enter p id k wr).entry q=some e):(q=p/\(e.id:Int)=id/\0<=id)\/s.entry q=some e:=by
 unfold Sp.enter at he;split at he
 ·next b=>
  obtain⟨x,hx⟩:=jf.1 b.1;have d:=tX a hx;unfold Sp.entry at he ⊢;split at he
  ·next c=>
   rw[bK c];dsimp only at he;rw[we a.cI.c1]at he;split at he
   ·next f=>
    cases he;refine .inl ⟨bu,?_,b.2.1⟩;show((id.toNat:Nat):Int)=id;omega
   ·exact .inr he
  ·cases he
 ·exact .inr he
def kh{W:Vs}{S:Cs}{id:Int}{k:Nat}{wr:Bool}{o:cG}{K:bS}{G:Rg}(i:dS W)(P:Kc.Inv S)(b0:Base V.core W.core)(b:Base W.core S)(N:V.space pid=some s)(hK:h7 V K)(eu:pid∉K)(hp:W.procs=hW K V.procs)(hw:s.cB p=some G)(B:s.entry p=none)(eD:0<=id/\id<16777216)(hk:k=1\/k=2)(hr:sv S id λx=>(eY W.procs).count x)(ho:fX W.procs S){x:Pg}(hx:S.bt.pg id=some x)(h1:x.place=1)(A:G.kind=2\/x.kf<0):
  pF V pid p s o (Vs.enter {W with core:=S} pid p id k wr, {o with bE:=o.bE++K},some id):=by
 have a:W.space pid=some s:=by rw[ux hp,bJ eu];exact N
 have w:W.group pid=V.group pid:=uy hp pid;have m:=i.sp _ _ _ (il a).2;obtain⟨V1,J,pr,I,H,b1,g,v,D,u,O,M,C,Q,R,T⟩:=TE (wr:=wr) i P b a (by rw[hw];rfl) eD hk hr rfl;rw[J];have d:Kf S V1.core:=by rw[I];exact Kf.bP P id 1
 have E:∃y,V1.core.bt.pg id=some y/\y.place=1:=by
  have:=C id;rw[hx]at this;cases j:V1.core.bt.pg id with
  |none=>rw[j]at this;cases this
  |some y=>
   rw[j]at this;have:=cV this;simp only[oU]at this;exact⟨y,rfl,by rw[<- this.1];exact h1⟩
 obtain⟨y,j,F⟩:=E;refine .ok K V1 id (s.enter p id k wr) ⟨k,id.toNat,wr,false⟩ hK eu ⟨⟨H,D,u⟩,O.congr λz=>?_,?_,?_⟩ (by rw[pr,hp,w]) g v (by show((id.toNat:Nat):Int)=id;omega) y j F (b0.trans b1) rfl
 ·have:=M z;rw[B]at this;exact this
 ·rw[pr];refine i.hs.kg λq e he=>?_;rw[xb g];rcases A5 m he with⟨r,_⟩|t;·rw[r,hw];rfl
  ·exact i.hs _ _ _ _ _ (il a).2 t
 ·rw[pr];refine(ho.kf d).kg λq e Y he c l X f=>?_;rw[xb g]at c;rcases A5 m he with⟨r,L,_⟩|t
  ·subst r;rw[hw]at c;cases c;rw[L]at f;obtain⟨U,n,e0⟩:=d _ _ f;rw[hx]at n;cases n;rw[e0];rcases A with h|h;·exact absurd h l
   ·exact h
  ·exact(ho.kf d) _ _ _ _ _ _ (il a).2 t c l _ f
def GD{f:Cs->Int->Cs×Int×Int×Int}{n:Nat}{o:cG}{q:Vs×cG×bX Int}{K:bS}{W:Vs}{err:Int}(hK:h7 V K)(hp:W.procs=hW K V.procs)(u:dS W)(b:Base V.core W.core)(e:q=(W, {o with bE:=o.bE++K,err:=err},none))(he:(err=12/\pid∉K)\/(err=13/\pid∈K)\/(err≠0/\err≠12/\pid∉K/\∃V0:Vs,dS V0/\V0.procs=W.procs/\Base V.core V0.core/\V0.core.bt.next+1<=V.core.bt.next+n/\f V0.core (V0.group pid)=(W.core,(f V0.core (V0.group pid)).2)/\(f V0.core (V0.group pid)).2.2.2=err/\(K= []->V0=V)/\(K≠ []->(f V.core (V.group pid)).2.2.2=12)))(h2:∀V0:Vs,dS V0->V0.procs=hW K V.procs->pid∉K->Base V.core V0.core->V0.core.bt.next+1<=V.core.bt.next+n->(f V0.core (V0.group pid)).2.2.2≠0->(f V0.core (V0.group pid)).2.2.2≠12->f V0.core (V0.group pid)=(V0.core, -1, -1,2)/\((f V.core (V.group pid)).2.2.2=12->False)):pF V pid p s o q:=by
 refine .no K W err hK hp u b e ?_;rcases he with h1|h1|⟨i,j,a3,V0,k,d,l,m,g,c,r,t⟩
 ·exact .inl h1
 ·exact .inr (.inl h1)
 ·refine .inr (.inr ?_);obtain⟨d1,d2⟩:=h2 V0 k (by rw[d];exact hp) a3 l m (by rw[c];exact i) (by rw[c];exact j);have a:K= []:=sA λa=>d2 (t a);have v:=r a;subst v;rw[d1]at g c;refine⟨c.symm,a,?_⟩;have h:W.core=V0.core:=(eO Prod.fst g).symm;cases W;cases V0;dsimp only at h d;rw[h,d]
def TF(h:dS V)(hn:V.core.bt.next+(V.procs.length+1)<16777216)(j:V.space pid=some s){a:Rg}(hw:s.cB p=some a)(hk:s.entry p=none->a.kind=2)(o:cG):pF V pid p s o (V.there pid p s a o):=by
 unfold Vs.there;cases he:s.entry p with
 |some e=>exact TD h hn j he o
 |none=>
  dsimp only;have A:∀S g,Kc.Inv S->S.bt.next<16777216->((λ(S:Cs) g=>S.cH (dM a p) g) S g).2.2.2≠0->gH S ((λ(S:Cs) g=>S.cH (dM a p) g) S g).1:=λS g I hx m=>by
   dsimp only at m ⊢;rcases I.kX hx (dM a p) g with⟨_,_,_,_,_,e0⟩|⟨i,_⟩|⟨e0,_⟩
   ·exact absurd e0 m
   ·exact i
   ·rw[e0];exact gH.refl S
  rcases A4 (f:=λ(S:Cs) g=>S.cH (dM a p) g) (λS g=>Path.cH _ g) A h hn (by rw[j];rfl) o with⟨K,W,hK,hp,eu,c,G,b,f0,q,_⟩|⟨K,W,err,hK,hp,c,b,q,v⟩
  ·rw[q];dsimp only at f0 ⊢;have eD:=S5 c.inv (k:=dM a p) (g:=W.group pid) bu f0;have u:=c.inv.cH bu (dM a p) (W.group pid);rcases c.inv.kX bu (dM a p) (W.group pid)with⟨x,hm,hx,h1,H,e0⟩|⟨_,e0,_⟩|⟨e0,_⟩
   ·generalize W.core.cH (dM a p) (W.group pid)=r at*
    rcases hm with⟨i,l⟩|hm
    ·obtain⟨y,D⟩:=jf.1 l;exact kh c u b i.toBase j hK eu hp hw he eD (.inr rfl) ((c.refs.gS i).toP (c.refs.pg D).2) (fX.kf c.own (Kf.of i)) hx h1 (.inl (hk he))
    ·exact kh c u b hm.toBase j hK eu hp hw he eD (.inr rfl) (c.refs.made hm).1 (fX.made c hm) hx h1 (.inl (hk he))
   ·rw[e0]at f0;cases f0
   ·rw[e0]at f0;cases f0
  ·rw[q];dsimp only;refine GD (f:=λS g=>S.cH (dM a p) g) (n:=V.procs.length+1) hK hp c b rfl v (λV0 E F eu b0 J B C=>?_);try dsimp only at B C ⊢
   rcases E.inv.kX bu (dM a p) (V0.group pid)with⟨_,_,_,_,_,e0⟩|⟨_,e0,_⟩|⟨e0,hb⟩
   ·exact absurd e0 B
   ·exact absurd e0 C
   ·refine⟨e0,λd=>?_⟩;rcases h.inv.kX bu (dM a p) (V.group pid)with⟨_,_,_,_,_,t⟩|⟨_,_,z,w⟩|⟨t,_⟩
    ·rw[t]at d;cases d
    ·rcases hb with hb|hb;·rw[b0.has,w]at hb;cases hb
     ·rw[uy F pid]at hb;exact Base.ke b0 hb z
    ·rw[t]at d;cases d
def aDk{S:Cs}(h:Kc.Inv S){x id:Int}(n:Int)(hx:x≠id):(S.bP id n).1.bt.pg x=S.bt.pg x:=by
 rcases oz h id n with⟨_,he⟩|⟨p,hp,⟨_,he⟩|⟨_,_,he⟩|⟨_,_,_,_,_,a,_⟩⟩
 ·rw[he]
 ·rw[he]
 ·rw[he];exact dm _ _ hx
 ·rw[a,bJ hx]
def copied{W:Vs}{S:Cs}{id:Int}{o:cG}{K:bS}{N:Rg}{f:En}(a:dS W)(O:Kc.Inv S)(b0:Base V.core W.core)(L:V.space pid=some s)(hK:h7 V K)(eu:pid∉K)(hp:W.procs=hW K V.procs)(hw:s.cB p=some N)(hf:s.entry p=some f)(eD:0<=id/\id<16777216)(hm:Made W.core S id){x:Pg}(hx:S.bt.pg id=some x)(h1:x.place=1)(B:x.kf<0):
  pF V pid p s o ({Vs.enter {W with core:=S} pid p id 1 true with core:=((Vs.enter {W with core:=S} pid p id 1 true).core.bP f.id (-1)).1}, {o with bE:=o.bE++K},some id):=by
 have b:W.space pid=some s:=by rw[ux hp,bJ eu];exact L
 have v:W.group pid=V.group pid:=uy hp pid;have k:=a.sp _ _ _ (il b).2;obtain⟨hr,R⟩:=a.refs.made hm;obtain⟨V1,H,pr,G,d,b1,h,u,D,t,M,J,C,_⟩:=TE (wr:=true) a O hm.toBase b (by rw[hw];rfl) eD (.inl rfl) hr rfl;rw[H];have j:(f.id:Int)≠id:=by
  intro e;have:=GB a b hf;rw[e]at this;omega
 have w:Kf S V1.core:=by rw[G];exact Kf.bP O id 1
 have c:Kf S (V1.core.bP f.id (-1)).1:=w.trans (Kf.bP d _ _);have E:∃y,(V1.core.bP f.id (-1)).1.bt.pg id=some y/\y.place=1:=by
  rw[aDk d (-1) (l3 j)];have:=C id;rw[hx]at this;cases i:V1.core.bt.pg id with
  |none=>rw[i]at this;cases this
  |some y=>
   rw[i]at this;have:=cV this;simp only[oU]at this;exact⟨y,rfl,by rw[<- this.1];exact h1⟩
 obtain⟨y,i,F⟩:=E;have P:=GB a b hf;have Q:=a.small (f.id:Int);have rd:=M.down (id:=(f.id:Int)) d bu (by unfold one;rw[bJ j];omega);refine .ok K {V1 with core:=(V1.core.bP f.id (-1)).1} id (s.enter p id 1 true) ⟨1,id.toNat,true,false⟩ hK eu ⟨⟨d.bP _ _,D,t⟩,rd.congr λz=>?_,?_,?_⟩ (by show V1.procs=_;rw[pr,hp,v]) h u (by show((id.toNat:Nat):Int)=id;omega) y i F ((b0.trans b1).trans (w9 d _ _)) rfl
 ·have:=J z;rw[hf]at this;have this:(eY V1.procs).count z+one z f.id=(eY W.procs).count z+one z id:=this;show(eY V1.procs).count z=if z=(f.id:Int)then(eY W.procs).count z+one z id-1 else(eY W.procs).count z+one z id
  unfold one at this ⊢;split<;>rename_i e;·rw[bK e]at this;omega
  ·rw[bJ e]at this;omega
 ·show lY V1.procs;rw[pr];refine a.hs.kg λq e he=>?_;rw[xb h];rcases A5 k he with⟨n,_⟩|r;·rw[n,hw];rfl
  ·exact a.hs _ _ _ _ _ (il b).2 r
 ·show fX V1.procs _;rw[pr];refine(((fX.made a hm).kf c)).kg λq e X he m A U g=>?_;rw[xb h]at m;rcases A5 k he with⟨n,I,_⟩|r
  ·subst n;rw[I]at g;obtain⟨T,l,e0⟩:=c _ _ g;rw[hx]at l;cases l;rw[e0];exact B
  ·exact((fX.made a hm).kf c) _ _ _ _ _ _ (il b).2 r m A _ g
def aI6(h:dS V)(hn:V.core.bt.next+(V.procs.length+1)<16777216)(k:V.space pid=some s){F:Rg}(hw:s.cB p=some F)(hk:F.kind≠2)(o:cG):pF V pid p s o (V.own pid p s o):=by
 unfold Vs.own;cases he:s.entry p with
 |some e=>
  dsimp only;split;·exact TD h hn k he o
  have v:∀S g,Kc.Inv S->S.bt.next<16777216->((λ(S:Cs) g=>S.copy e.id g) S g).2.2.2≠0->gH S ((λ(S:Cs) g=>S.copy e.id g) S g).1:=λS g G hx d=>by
   dsimp only at d ⊢;rcases G.ml hx e.id g with⟨_,_,_,_,_,e0,_⟩|⟨D,_⟩|⟨e0,_⟩
   ·exact absurd e0 d
   ·exact D
   ·rw[e0];exact gH.refl S
  rcases A4 (f:=λ(S:Cs) g=>S.copy e.id g) (λS g=>Path.copy _ g) v h hn (by rw[k];rfl) o with⟨K,W,hK,hp,eu,a,E,b,f0,i,_⟩|⟨K,W,err,hK,hp,a,b,i,m⟩
  ·rw[i];dsimp only at f0 ⊢;have eD:=S4 a.inv (id:=e.id) (g:=W.group pid) bu f0;have B:=a.inv.copy bu e.id (W.group pid);rcases a.inv.ml bu e.id (W.group pid)with⟨x,hm,hx,h1,t,e0,_⟩|⟨_,e0,_⟩|⟨e0,_⟩
   ·generalize W.core.copy e.id (W.group pid)=r at*
    exact copied a B b k hK eu hp hw he eD hm hx h1 t
   ·rw[e0]at f0;cases f0
   ·rw[e0]at f0;cases f0
  ·rw[i];dsimp only;refine GD (f:=λS g=>S.copy e.id g) (n:=V.procs.length+1) hK hp a b rfl m (λV0 l z eu b0 H w y=>?_);try dsimp only at w y ⊢
   rcases l.inv.ml bu e.id (V0.group pid)with⟨_,_,_,_,_,e0,_⟩|⟨_,e0,_⟩|⟨e0,hb⟩
   ·exact absurd e0 w
   ·exact absurd e0 y
   ·refine⟨e0,λc=>?_⟩;rcases h.inv.ml bu e.id (V.group pid)with⟨_,_,_,_,_,j,_⟩|⟨_,_,u,_⟩|⟨j,_⟩
    ·rw[j]at c;cases c
    ·rcases hb with hb|hb
     ·have A:V0.space pid=some s:=by rw[ux z,bJ eu];exact k
      obtain⟨q,C⟩:=GC l A he;exact hb ⟨q,C,l.inv.anon _ _ C (l.own _ _ _ _ _ _ (il A).2 he hw hk _ C)⟩
     ·rw[uy z pid]at hb;exact Base.ke b0 hb u
    ·rw[j]at c;cases c
 |none=>
  dsimp only;have v:∀S g,Kc.Inv S->S.bt.next<16777216->((λ(S:Cs) g=>S.fresh g) S g).2.2.2≠0->gH S ((λ(S:Cs) g=>S.fresh g) S g).1:=λS g G hx d=>by
   dsimp only at d ⊢;rcases G.kc hx g with⟨_,_,_,_,_,e0,_⟩|⟨D,_⟩|⟨e0,_⟩
   ·exact absurd e0 d
   ·exact D
   ·rw[e0];exact gH.refl S
  rcases A4 (f:=λ(S:Cs) g=>S.fresh g) (λS g=>Path.fresh g) v h hn (by rw[k];rfl) o with⟨K,W,hK,hp,eu,a,E,b,f0,i,_⟩|⟨K,W,err,hK,hp,a,b,i,m⟩
  ·rw[i];dsimp only at f0 ⊢;have eD:=S3 a.inv (g:=W.group pid) bu f0;have B:=a.inv.fresh bu (W.group pid);rcases a.inv.kc bu (W.group pid)with⟨x,hm,hx,h1,t,e0,_⟩|⟨_,e0,_⟩|⟨e0,_⟩
   ·generalize W.core.fresh (W.group pid)=r at*
    exact kh a B b hm.toBase k hK eu hp hw he eD (.inl rfl) (a.refs.made hm).1 (fX.made a hm) hx h1 (.inr t)
   ·rw[e0]at f0;cases f0
   ·rw[e0]at f0;cases f0
  ·rw[i];dsimp only;refine GD (f:=λS g=>S.fresh g) (n:=V.procs.length+1) hK hp a b rfl m (λV0 l z eu b0 H w y=>?_);try dsimp only at w y ⊢
   rcases l.inv.kc bu (V0.group pid)with⟨_,_,_,_,_,e0,_⟩|⟨_,e0,_⟩|⟨e0,hb⟩
   ·exact absurd e0 w
   ·exact absurd e0 y
   ·refine⟨e0,λc=>?_⟩;rcases h.inv.kc bu (V.group pid)with⟨_,_,_,_,_,j,_⟩|⟨_,_,u,_⟩|⟨j,_⟩
    ·rw[j]at c;cases c
    ·rcases hb with hb|hb;·exact hb
     ·rw[uy z pid]at hb;exact Base.ke b0 hb u
    ·rw[j]at c;cases c
def alive(p:PP):Bool:=p.2.isSome
inductive kY(P P':bA PP)(K:bS):Prop
 |same (hl:P'.length=P.length) (h:∀i:Nat,(P'[i]?).map alive=(P[i]?).map λp=>alive p&&decide ((i:Int)∉K))
 |more (x:PP) (hx:alive x=true) (hK:K= []) (h:P'=P++[x])
structure fO(V:Vs)(o:db)(r:Vs×cG):Prop where
 ri:dS r.1
 kill:h7 V r.2.bE
 xc:kY V.procs r.1.procs (r.2.bE++if o.kind=11/\r.2.err=0 then[o.a]else[])
 exit:o.kind=11/\r.2.err=0->(V.space o.a).isSome=true/\r.2.bE= []
 bad:r.2.err≠0->r.2.err≠12->r.2.err≠13->r.1=V/\r.2.n=0/\r.2.bE= []
def GF(P:bA PP):kY P P []:=.same rfl λi=>by cases P[i]? <;>simp
def GG{P P':bA PP}(hl:P'.length=P.length)(h:∀i:Nat,(P'[i]?).map alive=(P[i]?).map alive):kY P P' []:=.same hl λi=>by rw[h];cases P[i]? <;>simp
def fO.id(h:dS V){o:db}{e:Int}(he:e≠0\/o.kind≠11):fO V o (V,.bad e):=by
 refine⟨h,h7.nil V,?_,λc=>?_,λ_ _ _=>⟨rfl,rfl,rfl⟩⟩
 ·rw[bJ];·exact GF _
  ·rintro⟨a,b⟩;rcases he with he|he;·exact he b
   ·exact he a
 ·rcases he with he|he;·exact absurd c.2 he
  ·exact absurd c.1 he
def fO.core(h:dS V){o:db}{S:Cs}{a:cG}(t:Kc.Inv S)(hk:o.kind≠11)(d:∀x,(S.bt.pg x).map kr=(V.core.bt.pg x).map kr)(f:a.bE= [])(hb:a.err≠0->a.err≠12->a.err≠13->S=V.core/\a.n=0):fO V o ({V with core:=S},a):=by
 refine⟨⟨⟨t,h.sp,h.eI⟩,λx=>by rw[Gw (d x)];exact h.refs x,h.hs,λi g s q e x n he hw m p hp=>?_⟩,by rw[f];exact h7.nil V,?_,λc=>absurd c.1 hk,λj k l=>⟨?_,(hb j k l).2,f⟩⟩
 ·have:=d e.id;have hp:S.bt.pg e.id=some p:=hp;rw[hp]at this;cases b:V.core.bt.pg e.id with
  |none=>rw[b]at this;cases this
  |some r=>
   rw[b]at this;have e0:kr p=kr r:=cV this;unfold kr at e0;simp only[oU]at e0;rw[e0.1];exact h.own _ _ _ _ _ _ n he hw m _ b
 ·rw[f,bJ (λc=>hk c.1)];exact GF _
 ·rw[(hb j k l).1]
def aGJ{S:Cs}(g a n:Int)(h:(S.cJ g a n).2≠0):(S.cJ g a n).1=S:=by
 unfold Cs.cJ at h ⊢;split at h<;>rename_i h1;·rw[bK h1]
 rw[bJ h1];split at h<;>rename_i h2;·rw[bK h2]
 rw[bJ h2];split at h<;>rename_i e;·exact absurd rfl h
 rw[bJ e];split at h<;>rename_i f;·exact absurd rfl h
 rw[bJ f];split at h<;>rename_i d
 ·rw[bK d];unfold km at h ⊢;dsimp only at h ⊢;split at h<;>rename_i b;·exact absurd rfl h
  ·rw[bJ b]
 rw[bJ d];split at h<;>rename_i b
 ·rw[bK b];unfold km at h ⊢;dsimp only at h ⊢;split at h<;>rename_i c;·exact absurd rfl h
  ·rw[bJ c]
 rw[bJ b];split at h<;>rename_i c
 ·rw[bK c];split at h<;>rename_i i;·rw[bK i]
  ·exact absurd rfl h
 rw[bJ c]
def aC9(S:Cs)(g a n:Int):(S.cJ g a n).1.bt=S.bt:=by
 unfold Cs.cJ Cs.iV;repeat' split
 all_goals rfl
def aFG(h:dS V)(o:db)(hk:o.kind=0):fO V o (V.act o):=by
 unfold Vs.act;rw[bK hk];refine fO.core h (h.inv.ct _) bu (λx=>?_) rfl (λhe _ _=>?_);·unfold Cs.ct;dsimp only;split<;>rfl
 ·dsimp only at he ⊢;unfold Cs.ct at he ⊢;dsimp only at he ⊢;split at he<;>rename_i h1;·exact absurd h1 he
  ·rw[bJ h1];refine⟨rfl,?_⟩;unfold gz at h1 ⊢;split at h1<;>rename_i h2;·rw[bK h2];rfl
   rw[bJ h2];split at h1<;>rename_i a;·rw[bK a];rfl
   rw[bJ a];split at h1<;>rename_i b;·rw[bK b];rfl
   ·exact absurd rfl h1
def aG2{S:Cs}(h:Kc.Inv S)(g x:Int):((S.remove g).1.bt.pg x).map kr=(S.bt.pg x).map kr:=by
 unfold Cs.remove;dsimp only;split
 ·show((S.bt.dG (S.bt.eA g) (pQ S.tree g)).pg x).map kr=_;rw[yg h.cI,xE];cases S.bt.pg x with
  |none=>rfl
  |some p=>rw[fC,fC];show some (kr (if _ then _ else _))=_;split<;>rfl
 ·rfl
def aEs(h:dS V)(o:db)(hk:o.kind=1):fO V o (V.act o):=by
 unfold Vs.act;rw[cK,bK hk];split;·exact fO.id h (.inr bu)
 ·refine fO.core h (h.inv.remove _) bu (aG2 h.inv _) rfl (λhe _ _=>⟨?_,rfl⟩);have he:(V.core.remove o.a).2≠0:=he;unfold Cs.remove at he ⊢;dsimp only at he ⊢;split at he<;>rename_i h1;·exact absurd rfl he
  ·rw[bJ h1]
def aFH(h:dS V)(o:db)(hk:o.kind=2):fO V o (V.act o):=by
 unfold Vs.act;rw[cK,cK,bK hk];exact fO.core h (h.inv.cJ _ _ _) bu (λx=>by rw[aC9]) rfl (λhe _ _=>⟨aGJ _ _ _ he,rfl⟩)
def uz{P:bA PP}{x:PP}{i:Nat}{g:Int}{s:Sp}(h:(P++[x])[i]?=some (g,some s)):P[i]?=some (g,some s)\/x=(g,some s):=by
 rcases hE i P.length with a|a;·rw[eQ a]at h;exact .inl h
 ·rw[fL a]at h;rcases k3 (i-P.length)with b|b;·rw[b]at h;exact .inr (cV h)
  ·rw[gI (by simp;omega)]at h;cases h
def TG(P:bA PP)(x:PP)(y:Int):(eY (P++[x])).count y=(eY P).count y+(kd x).count y:=by
 unfold eY;rw[xx,rp];simp
def aFI(h:dS V)(o:db)(hk:o.kind=3):fO V o (V.act o):=by
 unfold Vs.act;rw[cK,cK,cK,bK hk];split;·exact fO.id h (.inr bu)
 split;·exact fO.id h (.inr bu)
 refine⟨⟨⟨h.inv,λi g s a=>?_,by show(V.procs++[_]).length<=64;rw[df];simp only[mx];omega⟩,h.refs.congr λx=>?_,λi g s q e a he=>?_,λi g s q e x a he hw b p hp=>?_⟩,h7.nil V,?_,λc=>bu,λc _ _=>absurd rfl c⟩
 ·rcases uz a with a|a;·exact h.sp _ _ _ a
  ·cases a;exact fR.new
 ·show(eY (V.procs++[_])).count x=_;rw[TG];rfl
 ·rcases uz a with a|a;·exact h.hs _ _ _ _ _ a he
  ·cases a;unfold Sp.entry at he;split at he<;>cases he
 ·rcases uz a with a|a;·exact h.own _ _ _ _ _ _ a he hw b p hp
  ·cases a;unfold Sp.entry at he;split at he<;>cases he
 ·rw[cK];exact .more _ rfl rfl rfl
def aJV(h:dS V)(o:db)(hk:o.kind=12):fO V o (V.act o):=by
 unfold Vs.act;rw[cK,cK,cK,cK,bK hk];exact fO.core h (h.inv.dD _) bu (λx=>rfl) rfl (λhe _ _=>absurd rfl he)
def aEt(h:dS V)(o:db)(hk:o.kind=13):fO V o (V.act o):=by
 unfold Vs.act;rw[cK,cK,cK,cK,cK,bK hk];exact fO.core h (h.inv.shrink _ _) bu ((Cp h.inv _ _).gS h.inv).kr rfl (λhe _ _=>absurd rfl he)
def A6{P:bA PP}{i:Nat}{g a:Int}{s s1:Sp}(h:P[i]?=some (g,some s))(j:Nat):((P.set i (a,some s1))[j]?).map alive=(P[j]?).map alive:=by
 rw[hv];split
 ·next e=>
  subst e;rw[bK (c2.1 h).1,h];rfl
 ·rfl
def GH(P:bA PP)(K:bS):kY P (hW K P) K:=.same (TA _ _) λi=>by
 rw[pE,xE];cases P[i]? with
 |none=>rfl
 |some p=>
  rw[fC,fC];show some (alive (if _ then _ else _))=_;split<;>rename_i h;·simp[alive,h]
  ·simp[h]
def aIE{P:bA PP}{K:bS}{i:Nat}{g b:Int}{s s1:Sp}(h:(hW K P)[i]?=some (g,some s)):kY P ((hW K P).set i (b,some s1)) K:=by
 cases GH P K with
 |same hl a=>exact .same (by rw[eh];exact hl) λj=>by rw[A6 h];exact a j
 |more x hx hK a=>exact absurd (eO List.length a) (by rw[TA,df];simp)
def dS.fQ(h:dS V)(t:V.space pid=some s)(g:Int){s1:Sp}(l:fR s1)(r:∀x,(fK s1).count x=(fK s).count x)(hw:∀q e,s1.entry q=some e->∃f,s.entry q=some f/\f.id=e.id/\((s.cB q).isSome=true->∃x y,s1.cB q=some x/\s.cB q=some y/\x.kind=y.kind)):dS {V with procs:=V.procs.set pid.toNat (g,some s1)} :=by
 obtain⟨w,hp⟩:=il t;have k:=(c2.1 hp).1;refine⟨⟨h.inv,λi o s' a=>?_,by show(V.procs.set _ _).length<=64;rw[eh];exact h.eI⟩,h.refs.congr λx=>?_,?_,?_⟩
 ·have a:(V.procs.set pid.toNat (g,some s1))[i]?=some (o,some s'):=a;rw[hv]at a;split at a
  ·try rw[bK k]at a
   cases a;exact l
  ·exact h.sp _ _ _ a
 ·have u:=oy (x:=x) (p':=(g,some s1)) hp;have v:(kd (g,some s1)).count x=(kd (V.group pid,some s)).count x:=r x;show(eY (V.procs.set pid.toNat (g,some s1))).count x=_;omega
 ·refine lY.kg (P:=V.procs) h.hs λq e he=>?_;obtain⟨f,b,_,d⟩:=hw q e he;obtain⟨x,y,h1,_⟩:=d (h.hs _ _ _ _ _ hp b);rw[h1];rfl
 ·refine fX.kg (P:=V.procs) h.own λq e x he m j z c=>?_;obtain⟨f,b,n,d⟩:=hw q e he;obtain⟨A,y,h1,h2,p⟩:=d (h.hs _ _ _ _ _ hp b);rw[m]at h1;cases h1;rw[<- n]at c;exact h.own _ _ _ _ _ _ hp b h2 (by rw[<- p];exact j) _ c
def GI(h:s.entry p=none):s.cq p=s:=by unfold Sp.cq;rw[h]
def GJ{e:En}(h:s.entry p=some e):s.cq p= {s with cI:=fa s.cI p.toNat {e with tc:=true}} :=by unfold Sp.cq;rw[h]
def aDn(a:fR s)(q:Int):((s.cq p).entry q).map En.id=(s.entry q).map En.id:=by
 cases he:s.entry p with
 |none=>rw[GI he]
 |some e=>
  rw[GJ he];obtain⟨d,_,_,c⟩:=a.entry he;unfold Sp.entry;split
  ·dsimp only;rw[we a.cI.c1];split;·next b=>rw[b,c];rfl
   ·rfl
  ·rfl
def aDm(a:fR s)(x:Int):(fK (s.cq p)).count x=(fK s).count x:=by
 cases he:s.entry p with
 |none=>rw[GI he]
 |some e=>
  rw[GJ he];obtain⟨c,_,_,b⟩:=a.entry he;have:=GA (p:=p.toNat) (e:={e with tc:=true}) x a.cI.c1;rw[b]at this;unfold fK;dsimp only at this ⊢;omega
def aFb:(s.cq p).dz=s.dz:=by
 cases he:s.entry p with
 |none=>rw[GI he]
 |some e=>rw[GJ he]
def dS.cq(h:dS V)(b:V.space pid=some s)(p:Int):dS (V.cq pid p)/\(V.cq pid p).procs=V.procs.set pid.toNat (V.group pid,some (s.cq p)):=by
 have a:=h.sp _ _ _ (il b).2;have e:V.cq pid p= {V with procs:=V.procs.set pid.toNat (V.group pid,some (s.cq p))} :=by unfold Vs.cq;rw[b];rfl
 rw[e];refine⟨h.fQ b _ (a.cq p) (aDm a) λq e he=>?_,rfl⟩;have:=aDn (p:=p) a q;rw[he]at this;cases hf:s.entry q with
 |none=>rw[hf]at this;cases this
 |some f=>
  rw[hf]at this;refine⟨f,rfl,(cV this).symm,λc=>?_⟩;obtain⟨y,d⟩:=jf.1 c;exact⟨y,y,by rw[xb aFb];exact d,d,rfl⟩
structure jd(V:Vs)(pid:Int)(r:Vs×cG):Prop where
 ri:dS r.1
 kill:h7 V r.2.bE
 xc:kY V.procs r.1.procs r.2.bE
 bad:r.2.err≠0->r.2.err≠12->r.2.err≠13->r.1=V/\r.2.n=0/\r.2.bE= []
def jd.h8(h:dS V)(e:Int):jd V pid (V,.bad e):=⟨h,h7.nil V,GF _,λ_ _ _=>⟨rfl,rfl,rfl⟩⟩
def pF.call{q:Vs×cG×bX Int}(m:V.space pid=some s)(d:pF V pid p s .zero q){F:Vs->Int->Vs}{N:Vs->Int->Int->Int}(t:∀V1 id s1,dS V1->V1.space pid=some s1->∃g s2,(F V1 id).procs=V1.procs.set pid.toNat (g,some s2)/\dS (F V1 id)):
  jd V pid (match q.2.2 with|none=>(q.1,q.2.1)|some id=>(F q.1 id, {q.2.1 with n:=N q.1 id q.2.1.n})):=by
 rcases d with⟨K,V1,id,s1,e,hK,eu,h,hp,hr,he,eD,x,hx,h1,b,rfl⟩|⟨K,W,err,hK,hp,h,b,rfl,he⟩
 ·dsimp only;have f:=TC m eu;have l:=(c2.1 f).1;have o:V1.procs[pid.toNat]?=some (V.group pid,some s1):=by rw[hp,jm l]
  have j:V1.space pid=some s1:=by
   have:=(iY o).1;rwa[show((pid.toNat:Nat):Int)=pid by have:=(il m).1;omega]at this
  obtain⟨g,s2,i,u⟩:=t V1 id s1 h j;refine⟨u,hK,?_,λk _ _=>absurd rfl k⟩;dsimp only;rw[i,hp,List.set_set];exact aIE f
 ·dsimp only;refine⟨h,hK,by dsimp only;rw[hp];exact GH _ _,λk i r=>?_⟩;rcases he with⟨a,_⟩|⟨a,_⟩|⟨_,a,c⟩
  ·exact absurd a i
  ·exact absurd a r
  ·subst a;exact⟨c,rfl,rfl⟩
def aGK(h:dS V)(hn:V.core.bt.next+(V.procs.length+1)<16777216)(f:V.space pid=some s)(b:Int):jd V pid (V.load pid s b):=by
 unfold Vs.load;dsimp only;cases hw:s.cB (b/16)with
 |none=>exact jd.h8 h 14
 |some x=>
  dsimp only;split;·exact jd.h8 h 14
  split;·exact jd.h8 h 0
  next c=>
  have g:=h.sp _ _ _ (il f).2;have a:=(tX g hw).2.2.1;have hk:s.entry (b/16)=none->x.kind=2:=λe=>by
   rw[e]at c;unfold Rg.valid at a;rw[dF]at a;split at a;·next h1=>exact absurd ⟨rfl,h1⟩ c
   ·split at a;·assumption
    ·exact absurd a.2 bN
  have d:=TF h hn f hw hk .zero;exact d.call f (F:=λV1 id=> {V1 with core:=(V1.core.get id (b%16)).1}.cq pid (b/16)) (N:=λV1 id _=>(V1.core.get id (b%16)).2.1) λV1 id s1 m i=>by
   have j:dS {V1 with core:=(V1.core.get id (b%16)).1} :=m.core (aGD _ _) (m.inv.get _ _);obtain⟨k,e⟩:=dS.cq j (s:=s1) (pid:=pid) i (b/16);exact⟨_,_,e,k⟩
def aE8(h:dS V)(hn:V.core.bt.next+(V.procs.length+1)<16777216)(a:V.space pid=some s)(b c:Int):jd V pid (V.store pid s b c):=by
 unfold Vs.store;dsimp only;split;·exact jd.h8 h 1
 cases hw:s.cB (b/16)with
 |none=>exact jd.h8 h 14
 |some x=>
  dsimp only;split;·exact jd.h8 h 14
  split;·exact jd.h8 h 15
  have d:pF V pid (b/16) s .zero (if x.kind=2 then V.there pid (b/16) s x .zero else V.own pid (b/16) s .zero):=by
   split;·next hk=>exact TF h hn a hw (λ_=>hk) .zero
   ·next hk=>exact aI6 h hn a hw hk .zero
  generalize (if x.kind=2 then V.there pid (b/16) s x .zero else V.own pid (b/16) s .zero)=q at d;exact d.call a (F:=λV1 id=> {V1 with core:=(V1.core.put id (b%16) (UInt8.ofNat c.toNat)).1}.cq pid (b/16)) (N:=λV1 id n=>n) λV1 id s1 m f=>by
   have g:dS {V1 with core:=(V1.core.put id (b%16) (UInt8.ofNat c.toNat)).1} :=m.core (aGY _ _ _) (m.inv.put _ _ _);obtain⟨i,e⟩:=dS.cq g (s:=s1) (pid:=pid) f (b/16);exact⟨_,_,e,i⟩
def TH:∀ {l:bA Rg} {a:Int},fm a l=true->(∀x∈l,a<=x.a/\x.a<x.b)/\l.Pairwise λx y=>x.b<=y.a
 |[],_,_=>⟨(λ_ h=>by cases h),List.Pairwise.nil⟩
 |x::l,a,h=>by
  simp only[fm,dF,gD]at h;obtain⟨⟨c,d⟩,hr⟩:=h;obtain⟨h1,h2⟩:=TH hr;have hx:x.a<x.b:=by
   unfold Rg.valid at c;rw[dF,gD]at c;exact c.1.2.1
  refine⟨λy b=>?_,ht.2 ⟨λy b=>(h1 y b).1,h2⟩⟩;rcases eH.1 b with rfl|b;·exact⟨d,hx⟩
  ·have:=h1 y b;omega
def TI{l:bA Rg}{q:Int}{x:Rg}(h:j0 l q=some x):x∈l/\x.has q=true:=by
 unfold j0 at h;split at h;·exact⟨eG h,Ah (q:=λx=>x.has q) h⟩
 ·cases h
def TJ{l:bA Rg}(hr:fm 0 l=true){q:Int}{x:Rg}(hx:x∈l)(b:x.has q=true):j0 l q=some x:=by
 unfold j0;rw[bK hr];obtain⟨i,a⟩:=Ug hx;have:=ET (q:=λx:Rg=>x.has q) a b (λj y h k=>by
  cases c:y.has q with
  |false=>rfl
  |true=>
   exfalso;have hp:=(TH hr).2;obtain⟨f,g⟩:=c2.1 k;obtain⟨d,e⟩:=c2.1 a;have:=mV.1 hp j i f d h;rw[g,e]at this;unfold Rg.has at c b;simp at c b;omega)
 rw[this];exact a
def aJZ{l:bA Rg}{x y:Rg}(a:y∈l):y∈(eN l x).1:=by
 unfold eN;dsimp only;have key:∀n,y∈l.take n++x::l.drop n:=λn=>by
  rw[<- fP n l]at a;rcases gb.1 a with h|h;·exact gb.2 (.inl h)
  ·exact gb.2 (.inr (gn _ h))
 split;·exact a
 split
 ·split;·exact a
  ·exact key _
 ·exact key _
def aIC{l:bA Rg}(hr:fm 0 l=true){a b q:Int}(k:fm 0 (ha l a b)=true)(p:¬ (a<=q/\q<b)){y:Rg}(m:j0 l q=some y):∃x,j0 (ha l a b) q=some x/\x.kind=y.kind:=by
 obtain⟨hm,h⟩:=TI m;have i:y.a<=q/\q<y.b:=by unfold Rg.has at h;simpa using h
 have g:∀c d:Int,c<=q/\q<d->prt y c d∈fU y c d/\(prt y c d).has q=true/\(prt y c d).kind=y.kind:=λc d n=>by
  unfold fU;rw[eV];refine⟨h9.2 rfl,?_,rfl⟩;unfold Rg.has prt;simp;omega
 have mk:∀x,x∈fG a b y->x.has q=true->x.kind=y.kind->∃x,j0 (ha l a b) q=some x/\x.kind=y.kind:=λx hx j hk=>by
  refine⟨x,TJ k ?_ j,hk⟩;unfold ha;rw[bK hr];exact Bg.2 ⟨y,hm,hx⟩
 by_cases f:b<=a
 ·obtain⟨h1,h2,e⟩:=g y.a y.b i;exact mk _ (by unfold fG;rw[bK f];exact h1) h2 e
 ·by_cases o:q<a
  ·obtain⟨h1,h2,e⟩:=g y.a (min y.b a) bu;exact mk _ (by unfold fG;rw[bJ f];exact gb.2 (.inl h1)) h2 e
  ·obtain⟨h1,h2,e⟩:=g (max y.a b) y.b bu;exact mk _ (by unfold fG;rw[bJ f];exact gb.2 (.inr h1)) h2 e
def aJc{l:bA Rg}{x:Rg}(h:(eN l x).2≠0):(eN l x).1=l:=by
 unfold eN at h ⊢;dsimp only at h ⊢;split at h<;>rename_i h1;·rw[bK h1]
 rw[bJ h1];split at h
 ·split at h<;>rename_i h2;·rw[bK h2]
  ·exact absurd rfl h
 ·exact absurd rfl h
def TK(h:dS V)(c:V.space pid=some s)(x:Rg):jd V pid (V.map pid s x):=by
 obtain⟨k,hp⟩:=il c;have a:=h.sp _ _ _ hp;have b:fm 0 (s.map x).1.dz=true:=Qp a.hs;unfold Vs.map;refine⟨?_,h7.nil V,?_,λg _ _=>⟨?_,rfl,rfl⟩⟩
 ·refine h.fQ c _ (s1:=(s.map x).1) ⟨a.cI,b⟩ (λ_=>rfl) λq e he=>⟨e,he,rfl,λd=>?_⟩
  obtain⟨y,f⟩:=jf.1 d;obtain⟨hm,j⟩:=TI f;exact⟨y,y,TJ b (aJZ hm) j,f,rfl⟩
 ·exact GG (by show(V.procs.set _ _).length=_;rw[eh]) (A6 hp)
 ·have i:(s.map x).1=s:=by
   unfold Sp.map;have:(eN s.dz x).2≠0:=g;rw[aJc this]
  dsimp only;rw[i];show(⟨V.core,V.procs.set pid.toNat (V.group pid,some s)⟩:Vs)=V;rw[fJ hp]
def aFd(h:dS V)(D:V.space pid=some s)(a b:Int):jd V pid ({V.fQ pid (some (s.cut a b).1)with core:=ep (s.cut a b).2 V.core},⟨0,(s.cut a b).2.length,[]⟩):=by
 obtain⟨K,hp⟩:=il D;have f:=h.sp _ _ _ hp;have n:=(c2.1 hp).1;have g:=f.cut a b;have u:∀x,(fK s).count x=(fK (s.cut a b).1).count x+((s.cut a b).2).count x:=λx=>by
  unfold fK;show _=((s.cI.filter λq=> !hI a b q.1).map _).count x+((s.cI.filter λq=>hI a b q.1).map λq=>(q.2.id:Int)).count x;generalize s.cI=T;induction T with
  |nil=>rfl
  |cons q T z=>
   by_cases j:hI a b q.1=true;·rw[List.filter_cons_of_neg (p:=λq:Nat×En=> !hI a b q.1) (by simp[j]),List.filter_cons_of_pos (p:=λq:Nat×En=>hI a b q.1) j,kB,kB,sG,sG,z];omega
   ·rw[List.filter_cons_of_pos (p:=λq:Nat×En=> !hI a b q.1) (by simpa using j),List.filter_cons_of_neg (p:=λq:Nat×En=>hI a b q.1) j,kB,kB,sG,sG,z];omega
 have l:∀x,(eY (V.procs.set pid.toNat (V.group pid,some (s.cut a b).1))).count x+((s.cut a b).2).count x=(eY V.procs).count x:=λx=>by
  have H:=oy (x:=x) (p':=(V.group pid,some (s.cut a b).1)) hp;have I:(kd (V.group pid,some s)).count x=(fK s).count x:=rfl;have J:(kd (V.group pid,some (s.cut a b).1)).count x=(fK (s.cut a b).1).count x:=rfl;have:=u x;omega
 obtain⟨r,G⟩:=Gx (s.cut a b).2 h.inv h.inv.ids h.refs (λx=>by have:=l x;omega) h.small;have F:=((w7 (s.cut a b).2 V.core).inv h.inv (by have:=h.inv.ids;omega)).1;have d:∀q e,(s.cut a b).1.entry q=some e->s.entry q=some e/\¬ (a<=q/\q<b):=λq e he=>by
  unfold Sp.entry at he;split at he
  ·next t=>
   have hm:=tT he;have hm:(q.toNat,e)∈s.cI.filter λq=> !hI a b q.1:=hm;obtain⟨h1,h2⟩:=gp.1 hm;refine⟨by unfold Sp.entry;rw[bK t];exact tU f.cI.c1 h1,λE=>?_⟩;unfold hI at h2;simp at h2;omega
  ·cases he
 have k:∀q e,(s.cut a b).1.entry q=some e->∃x y,(s.cut a b).1.cB q=some x/\s.cB q=some y/\x.kind=y.kind:=λq e he=>by
  obtain⟨h1,h2⟩:=d q e he;obtain⟨y,w⟩:=jf.1 (h.hs _ _ _ _ _ hp h1);obtain⟨x,hx,hk⟩:=aIC f.hs g.hs h2 w;exact⟨x,y,hx,w,hk⟩
 refine⟨⟨⟨F,λi B s' c=>?_,by show(V.procs.set _ _).length<=64;rw[eh];exact h.eI⟩,r.congr λx=>?_,?_,?_⟩,h7.nil V,?_,λA _ _=>absurd rfl A⟩
 ·have c:(V.procs.set pid.toNat (V.group pid,some (s.cut a b).1))[i]?=some (B,some s'):=c;rw[hv]at c;split at c
  ·try rw[bK n]at c
   cases c;exact g
  ·exact h.sp _ _ _ c
 ·show(eY (V.procs.set pid.toNat (V.group pid,some (s.cut a b).1))).count x=_;have:=l x;omega
 ·refine lY.kg (P:=V.procs) h.hs λq e he=>?_;obtain⟨x,y,h1,_⟩:=k q e he;rw[h1];rfl
 ·refine fX.kg (P:=V.procs) (fX.kf h.own (Kf.ep _ h.inv)) λq e x he v m L o=>?_;obtain⟨M,y,h1,h2,C⟩:=k q e he;rw[v]at h1;cases h1;exact(fX.kf h.own (Kf.ep _ h.inv)) _ _ _ _ _ _ hp (d q e he).1 h2 (by rw[<- C];exact m) _ o
 ·exact GG (by show(V.procs.set _ _).length=_;rw[eh]) (A6 hp)
def Kf.dN:∀(ids:bS) {S:Cs},Kc.Inv S->Kf S (dN ids S)
 |[],_,_=> λ_ q a=>⟨q,a,rfl⟩
 |y::l,_,b=>(Kf.bP b y 1).trans (Kf.dN l (b.bP y 1))
def aGz(h:dS V)(j:V.space pid=some s)(hf:¬ 64<=V.procs.length):jd V pid ({core:=dN (s.ids 0 65536) V.core,procs:=V.procs++[(V.group pid,some s)]},⟨0,V.procs.length,[]⟩):=by
 obtain⟨m,hp⟩:=il j;have b:=h.sp _ _ _ hp;have hl:(s.ids 0 65536).length<=65536:=by rw[uw b];unfold fK;rw[dY];exact Go.Mp.gh b.cI
 obtain⟨r,l⟩:=Tz (s.ids 0 65536) h.inv h.inv.ids h.refs (λx hx=>by
  rw[uw b]at hx;exact lr (Ur.2 hx) (count_le hp)) (λx=>by
  have:=A3 (x:=x) h.sp;have:=h.eI;omega)
 have k:=((Gs (s.ids 0 65536) V.core).inv h.inv (by have:=h.inv.ids;omega)).1;refine⟨⟨⟨k,λi g s' a=>?_,by show(V.procs++[_]).length<=64;rw[df];simp only[mx];omega⟩,r.congr λx=>?_,λi g s' q e a he=>?_,λi g s' q e x a he hw c p d=>?_⟩,h7.nil V,.more _ rfl rfl rfl,λf _ _=>absurd rfl f⟩
 ·rcases uz a with a|a;·exact h.sp _ _ _ a
  ·cases a;exact b
 ·show(eY (V.procs++[_])).count x=_;rw[TG,uw b];rfl
 ·rcases uz a with a|a;·exact h.hs _ _ _ _ _ a he
  ·cases a;exact h.hs _ _ _ _ _ hp he
 ·rcases uz a with a|a;·exact(fX.kf h.own (Kf.dN _ h.inv)) _ _ _ _ _ _ a he hw c p d
  ·cases a;exact(fX.kf h.own (Kf.dN _ h.inv)) _ _ _ _ _ _ hp he hw c p d
def aCY(h:dS V)(a:V.space pid=some s)(g:Int):jd V pid ({V with procs:=V.procs.set pid.toNat (g,some s)},.zero):=by
 obtain⟨f,hp⟩:=il a;refine⟨h.fQ a g (h.sp _ _ _ hp) (λ_=>rfl) λq e he=>⟨e,he,rfl,λb=>?_⟩,h7.nil V,GG (by show(V.procs.set _ _).length=_;rw[eh]) (A6 hp),λd _ _=>absurd rfl d⟩;obtain⟨y,c⟩:=jf.1 b;exact⟨y,y,c,c,rfl⟩
def aKu(h:dS V)(hn:V.core.bt.next+(V.procs.length+1)<16777216){o:db}(a:V.space o.a=some s)(hk:4<=o.kind/\o.kind<=10):jd V o.a (V.call s o):=by
 unfold Vs.call;dsimp only;split
 ·split;·exact aCY h a _
  ·exact jd.h8 h 2
 split
 ·split;·exact TK h a _
  ·exact jd.h8 h 1
 split
 ·split
  ·split;·exact jd.h8 h 1
   ·exact TK h a _
  ·exact jd.h8 h 1
 split
 ·split;·exact aFd h a _ _
  ·exact jd.h8 h 1
 split;·exact aGK h hn a _
 split;·exact aE8 h hn a _ _
 split
 ·split;·exact jd.h8 h 3
  ·next hf=>exact aGz h a hf
 ·omega
def sw(h:dS V)(hn:V.core.bt.next+(V.procs.length+1)<16777216)(o:db):fO V o (V.act o):=by
 by_cases l:o.kind=0;·exact aFG h o l
 by_cases h1:o.kind=1;·exact aEs h o h1
 by_cases h2:o.kind=2;·exact aFH h o h2
 by_cases n:o.kind=3;·exact aFI h o n
 by_cases f:o.kind=12;·exact aJV h o f
 by_cases g:o.kind=13;·exact aEt h o g
 by_cases hm:o.kind<0\/13<o.kind;·rw[Tj ⟨hm,trivial⟩];exact fO.id h (.inl bN)
 rw[w1 ⟨bu,bu⟩];cases i:V.space o.a with
 |none=>exact fO.id h (.inl bN)
 |some s=>
  dsimp only;by_cases a:o.kind=11
  ·have e:V.call s o=(V.exit o.a,.zero):=by
    unfold Vs.call;dsimp only;rw[cK,cK,cK,cK,cK,cK,cK]
   rw[e];obtain⟨m,_,pr⟩:=h.exit o.a;refine⟨m,h7.nil V,?_,λ_=>⟨by rw[i];rfl,rfl⟩,λj _ _=>absurd rfl j⟩;rw[bK ⟨a,rfl⟩];show kY V.procs (V.exit o.a).procs [o.a];rw[pr];exact GH _ _
  ·obtain⟨m,k,d,b⟩:=aKu h hn i ⟨bu,bu⟩;refine⟨m,k,?_,λc=>absurd c.1 a,b⟩;rw[bJ (λc=>a c.1),g3];exact d
def fc{V:Vs}(h:dS V)(hn:V.core.bt.next+(V.procs.length+1)<16777216)(o:db):(V.act o).1.core.bt.next<=V.core.bt.next+66:=by
 have eI:=h.eI;by_cases hk:o.kind≠0/\o.kind≠1/\o.kind≠2;·have:=((aIc hk).inv h.inv bu).2.2;omega
 ·unfold Vs.act;by_cases a:o.kind=0
  ·rw[bK a];have:=((cw.ct (S:=V.core) o.a).inv h.inv bu).2.2;show(V.core.ct o.a).1.bt.next<=_;omega
  by_cases h1:o.kind=1
  ·rw[bJ a,bK h1];split;·show V.core.bt.next<=_;omega
   ·have:=((cw.remove (S:=V.core) o.a).inv h.inv bu).2.2;show(V.core.remove o.a).1.bt.next<=_;omega
  ·have h2:o.kind=2:=sA λh2=>hk ⟨a,h1,h2⟩;rw[bJ a,bJ h1,bK h2];have:=((cw.cJ (S:=V.core) o.a o.b o.c).inv h.inv bu).2.2;show(V.core.cJ o.a o.b o.c).1.bt.next<=_;omega
end Go.Kw
