/- Vm: Processes have numbers as they are made; there are 64 at most: the law answers true and lets its arguments be; for every input. -/
import Derived.Test.YtafigbgagbolgaaGreatDoorC15
import Derived.Test.YtafigbgagbolgaaGreatDoorProg
import Derived.Test.YtafigbgagbolgaaGreatDoorChecked
import Derived.LaidMore
import Derived.Lay
import Derived.OpenShut
import Derived.Stop.LaidErr
import Derived.Lib.LaidTab
import Derived.SevenTiedAt
import Derived.Test.YtafigbgagbolgaaGreatDoorRows
import Derived.Test.YtafigbgagbolgaaGreatDoorTie
import Derived.Test.YtafigbgagbolgaaGreatDoorCards
set_option linter.all false
set_option maxRecDepth 100000
open Go.IntKind(i64 u64)
namespace Go.Mp
open Go Go.Vc
abbrev oE:FuncId:=10
abbrev q3:FuncId:=22
noncomputable abbrev m3:Func:=Go.Proofs.Tryz.f10
def GC:P.funcs[oE]?=some m3:=Go.Proofs.Tryz.func10
def zw(w:World)(g:Addr->bh6):Prop:=Al (.cells #[Iv 3,Iv 0,Iv 0,Iv 0,Iv 0,Iv 5,Iv 0,Iv 2,Iv 0,Iv 0,Iv 9,Iv 0,Iv 20,Iv 7,Iv 0,Iv 8,Iv 0,Iv 20,Iv 0,Iv 0,Iv 8,Iv 0,Iv 21,Iv 0,Iv 0] 37) g w
end Go.Mp
namespace Go.Sp
open Go Go.Vc
variable{E:Env}{L:ch}{w W:World}{P:Program}
def g0.nil:g0 w ⟨none,0,0⟩ []:=⟨rfl,λi x h=>by simp at h⟩
end Go.Sp
namespace Go.Mp
open Go Go.Vc Go.Proofs
variable{K:bh7}{w:World}
variable(K w)
def TE(n exit:Int):=
 qF q3 #[] w λf e=>cond (!f) (K (.bool false) e) (qg (λA=>cond (decide (n<0)) (K (.bool f) e) (cond (decide (n>80)) (K (.bool f) e) (cond (decide (exit<1)) (K (.bool f) e) (cond (decide (exit>9)) (K (.bool f) e) (A e))))) λB=>qR acl #[Iv 2,Iv 2,.slice none 0 0] B λi C=>qO 0 C λg i14 h=>cond (decide (i14<n)) (zx iz #[Pv i,.agg #[Iv 3,Iv 0,Iv 0,Iv 0,Iv 0]] h λo p q j=>zW j λb k=>qU [Iv o,Iv p,Sv q] b k λa=>qg (λc=>cond (decide (i14<64)) (qL a b 0 λr=>cond (r !=0) (K (.bool false) a) (qL a b 1 λs=>cond (s !=i14) (K (.bool false) a) (cond (decide (i14≥64)) (qL a b 0 λt=>cond (t !=3) (K (.bool false) a) (qL a b 1 λu=>cond (u !=0) (K (.bool false) a) (c a))) (c a)))) (cond (decide (i14≥64)) (qL a b 0 λv=>cond (v !=3) (K (.bool false) a) (qL a b 1 λx=>cond (x !=0) (K (.bool false) a) (c a))) (c a))) λd=>qL d b 0 λy=>cond (y==0) (exit≠0/\cond ((i14.tmod exit)==0) (zx iz #[Pv i,.agg #[Iv 11,Iv i14,Iv 0,Iv 0,Iv 0]] d λD E F l=>(g (i64.wrap (i14+1)) l)) ((g (i64.wrap (i14+1)) d))) ((g (i64.wrap (i14+1)) d))) (cond f (qJ o1 #[Pv i] h λz m=>K (.bool (((z.n:Nat):Int)==(min1 n 64))) m) (K (.bool false) h)))
def q4:=
 zw w λm w2=>qJ tz #[Iv 4,Iv 4,.slice none 0 0,.slice (some m) 5 5] w2 λc L=>qR acl #[Iv 4,Iv 4,.slice none 0 0] L λb i=>qg (λJ=>cond b.isNone (K (.bool false) i) (cond (((c.n:Nat):Int) !=5) (K (.bool false) i) (J i))) λe=>cx (some m) 5 0 5 λj=>zL e j λr s t u v=>zx iz #[Pv b,.agg #[Iv r,Iv s,Iv t,Iv u,Iv v]] e λx y z n=>zW n λd o=>qU [Iv x,Iv y,Sv z] d o λp=>qJ o1 #[Pv b] p λh a=>qW c 2 3 λa29=>qL a a29 0 λA=>cond (A==0) (qW c 3 3 λk=>qL a k 1 λB=>cond (B==7) (qW c 4 3 λa33=>qL a a33 1 λC=>cond (C==0) (qW c 4 3 λa35=>qL a a35 0 λD=>cond (D==0) (qL a d 0 λE=>cond (E==0) (cond (((h.n:Nat):Int)==1) (qW h 0 3 λl=>qy a l 2 λF=>cond F (qR nA #[Pv b,Iv 0] a λG f=>cond (!G.isNone) (qR nA #[Pv b,Iv 1] f λH g=>cond H.isNone (qR rO #[Pv b] g λI q=>K (.bool (!I.isNone)) q) (K (.bool false) g)) (K (.bool false) f)) (K (.bool false) a)) (K (.bool false) a)) (K (.bool false) a)) (K (.bool false) a)) (K (.bool false) a)) (K (.bool false) a)) (K (.bool false) a)
variable{K w}
def amZ(n exit)(h:TE K w n exit):=bL (z8 [13,16,20,24,30,32,37,41,46,51,55,59,65,69,70,80,82,83] [] [(8,[(7,jZ)])] [(6,[]),(13,[])]) #[Iv n,Iv exit] K w Tryz.func10 h
def xo(h:q4 K w):=bL (z8 [16,19,20,33,39,46,53,58,62,63,74,79,84] [] [] [(6,[])]) #[] K w Tryz.func22 h
end Go.Mp
namespace Go.Mp
open Go Go.Vc Go.Sp Go.Proofs Go.Kc Go.Kw Go.Kt
variable{E:Env}{L:ch}{w W:World}{A:At}{v:Nat}{V:Vs}
def dC(a:cE)(b:Sl):List Value:=[Iv a.err,Iv a.n,Sv b]
def St.gX(h:St E A v V L w)(m:fU V)(n:V.core.bz.next+66<16777216)(o:c7){T:TypeId}{F:Int->Int->Sl->Addr->bh6}(k:∀(a:Sl) p w',a.n=(V.act o).2.bI.length->St E A v (V.act o).1 (bE p (dC (V.act o).2 a)::bC a 1 (bD (V.act o).2.bI)::L) w'->fU (V.act o).1->(V.act o).1.core.bz.next<=V.core.bz.next+66->F (V.act o).2.err (V.act o).2.n a ⟨p,0,none⟩ w'):
  Calls P iz #[Pb v,.agg (dO o).toArray] w λe d=>∃x:Int,∃y:Int,∃s:Sl,e=.returned (.agg #[Iv x,Iv y,Sv s])/\
   Al (.cells #[Iv 0,Iv 0,.slice none 0 0] T) (λp w2=>jt [Iv x,Iv y,Sv s] p (λb=>F x y s p b) w2) d:=by
 refine h.qS m n o (λa d c h1 q t=>⟨_,_,a,rfl,?_⟩);obtain⟨gs,us,r,ps,f,g,i⟩:=h1;refine Al.i i (λp w2 j=>eh _ j rfl (λb l=>k a p b c ⟨gs,us,r,ps,f,g,Vm.eA l⟩ q t))
def St.procs(h:St E A v V L w)(m:fU V){K:Ending->bh6}(k:∀(l:Sl) w',l.n=V.pr.length->St E A v V (jd l V.pr::L) w'->K (.returned (Sv l)) w'):Calls P o1 #[Pb v] w K:=by
 obtain⟨gs,us,r,ps,h1,a,d⟩:=h;have fq:=AM m a;refine use (AH (AL m a) h1 bA d) ?_;rintro _ w' ⟨l,rfl,c,b⟩;have e:(plain ps).map fV=V.pr:=by rw[a,AG]
 rw[e]at c b;exact k l w' c ⟨gs,us,r,ps,h1,a,b⟩
def St.space{pid:Int}(h:St E A v V L w){K:Ending->bh6}(k:∀x:cg,x.isNone=(V.space pid).isNone->K (.returned (.pointer x)) w):Calls P nA #[Pb v,Iv pid] w K:=by
 obtain⟨gs,us,r,ps,h1,b,e⟩:=h;have c:(⟨V.core,plain ps⟩:Vs)=V:=by cases V;dsimp only at b;rw[b]
 refine use (AF (pid:=pid) h1 e) ?_;rintro _ w' ⟨f,rfl⟩;rcases f with⟨i,a,g,s,rfl,j,rfl⟩|⟨d,rfl⟩
 ·refine k _ ?_;have:=(jS (V:=⟨V.core,plain ps⟩) (ig j)).1;rw[c]at this;rw[this];rfl
 ·refine k _ ?_;rw[c]at d;rw[d];rfl
end Go.Mp
namespace Go.Proofs.YtafigbgagbolgaaGreatDoor
open Go Go.Vc Go.Sp Go.Mp Go.RowKit Go.ChangeShapes
def aMl{α:Type}{a:Array α}(h:a.size=2):∃b c,a= #[b,c]:=by
 obtain⟨l⟩:=a
 match l,h with
 |[b,c],_=>exact⟨b,c,rfl⟩
end Go.Proofs.YtafigbgagbolgaaGreatDoor
namespace Go.Kc
open Go Go.Kt Go.Sp
variable{S:Cs}
namespace By
variable{n:Nat}{X t:List UInt8}{i j:Int}
def xp{a:Int}{b:UInt8}(f:0<=i)(g:0<=j)(d:i≠j):rd n (pt n X i a b).1 j=rd n X j:=by
 unfold rd;by_cases hp:pg n j
 ·rw[bM hp,bM hp];congr 1;unfold pt;split
  ·next e=>
   apply g6;intro k;by_cases c:k<16;·rw[ob c,ob c,h4 bA]
   ·rw[fH (by unfold gN;simp;omega),fH (by unfold gN;simp;omega)]
  ·rfl
 ·rw[bJ hp,bJ hp]
end By
def Has.lt(h:Inv0 S){id:Int}{t:List UInt8}(H:Has S id t):id<S.bz.next:=by
 obtain⟨p,hp,_⟩:=H;exact(h.ct.ids _ _ hp).2
variable{S':Cs}{id:Int}{t:List UInt8}
def Has.outs(H:Has S id t)(h:Inv S)(ho:et S S'):Has S' id t:=by
 induction ho with
 |refl S=>exact H
 |step hp h1 a _ b=>exact b (Has.dx h H hp h1 (AP h hp h1 a)) (h.out hp h1)
def Has.gB(h:Inv S)(H:Has S id t){a:Nat}(k:S.fr.bK[a]?=some false){text:List UInt8}(f:S'.bz.pg id=S.bz.pg id)(g:S'.fr.bK.length=S.fr.bK.length)(d:S'.fr.cG=(By.wr S.fr.bK.length S.fr.cG a text).1)(i:∀p,S.bz.pg id=some p->p.place=2->By.rd S'.sl.bK.length S'.sl.cG p.at_=By.rd S.sl.bK.length S.sl.cG p.at_):Has S' id t:=by
 refine H.dX h (λp hp _ _=>⟨p,by rw[f];exact hp,rfl,rfl,rfl,rfl⟩) (λp hp e=>?_) i;have b:=(h.ct.pl _ _ hp).1.2.2.1;have c:=(uC h.fr hp e b).2;rw[g,d];exact By.w7 h.fr.len bA b (λj=>by rw[<- j,dk,k]at c;cases c)
def Has.cN(h:Inv S)(i:S.bz.next<16777216)(H:Has S id t){g:Int}(f:S.live g=true)(text:List UInt8):Has (S.cN g text).1 id t:=by
 rcases rH h i f text with⟨S0,a,k,he,_,c⟩|⟨S0,j,k,he⟩
 ·have e:=k.outs.inv h;have d:=H.outs h k.outs;have b:id≠S.bz.next:=by have:=H.lt h.toInv0;omega
  refine d.gB e k.free (text:=text) (by rw[c,bJ b]) ?_ ?_ (λp _ _=>?_);·rw[he];show(S0.fr.bK.set a true).length=_;rw[dA]
  ·rw[he];show(By.wr (S0.fr.bK.set a true).length S0.fr.cG a text).1=_;rw[dA]
  ·rw[he];rfl
 ·rw[he];exact H.outs h k.outs
def Has.fresh(h:Inv S)(b:S.bz.next<16777216)(H:Has S id t)(g:Int):Has (S.fresh g).1 id t:=by
 unfold Cs.fresh;split;·exact H
 ·next a=>exact H.cN h b (by simpa using a) _
def Has.copy(h:Inv S)(c:S.bz.next<16777216)(H:Has S id t)(x g:Int):Has (S.copy x g).1 id t:=by
 unfold Cs.copy;dsimp only;split;·exact H
 ·next a=>
  have a:S.live g=true:=by
   cases b:S.live g with
   |true=>rfl
   |false=>exact absurd (.inr (.inl b)) a
  exact H.cN h c a _
def Has.brought(h:Inv S)(H:Has S id t){x o:Int}{p:Pg}{S0:Cs}{a:Nat}{r:Cs×Int×Int}(hp:S.bz.pg x=some p)(h1:p.place≠1)(b:ya S S0 x p o a r):Has r.1 id t:=by
 have c:=b.took.outs.inv h;have f:=H.outs h b.took.outs;have u:=(cT.1 b.took.free).1;by_cases hx:id=x
 ·subst hx;obtain⟨v,d,i,m,s⟩:=f;rw[b.bH]at d;cases d;refine⟨{p with owner:=o,place:=1,at_:=(a:Int)},by rw[b.pg,bM rfl],i,m,?_⟩;rw[uB rfl,b.cG,b.bK,dA,By.AN c.fr.len ⟨bA,bA⟩ (Has.len c ⟨p,b.bH,i,m,rfl⟩)];exact s
 ·refine f.gB c b.took.free (text:=S0.text p) (by rw[b.pg,bJ hx]) (by rw[b.bK,dA]) b.cG (λq k e=>?_);rw[b.sl];by_cases g:p.place=2
  ·rw[bM g];have l:=(c.ct.pl _ _ k).1.2.2.1;have j:=(c.ct.pl _ _ b.bH).1.2.2.1;exact ox rfl c.sl.len j l (λn=>hx (c.ct.one b.bH k bA bA n.symm))
  ·rw[bJ g]
def Has.cb(h:Inv S)(H:Has S id t)(x g:Int):Has (S.cb x g).1 id t:=by
 by_cases c:S.bz.pg x=none\/S.live g=false\/∃p,S.bz.pg x=some p/\p.place=0/\p.kf<0;·rw[og h.toInv0 c];exact H
 ·obtain⟨p,hp⟩:∃p,S.bz.pg x=some p:=by
   cases i:S.bz.pg x with
   |none=>exact absurd (.inl i) c
   |some p=>exact⟨p,rfl⟩
  have d:S.live g=true:=by
   cases f:S.live g with
   |true=>rfl
   |false=>exact absurd (.inr (.inl f)) c
  by_cases h1:p.place=1
  ·rw[tn h.toInv0 hp h1 d];exact H.same h rfl ⟨rfl,rfl⟩ ⟨rfl,rfl⟩
  ·rcases rI h.toInv0 h.anon hp d (λe=>c (.inr (.inr ⟨p,hp,e⟩))) h1 with⟨S0,a,b,_⟩|⟨S0,j,b,he⟩
   ·exact H.brought h hp h1 b
   ·rw[he];exact H.outs h b.outs
end Go.Kc
namespace Go.Kc
open Go Go.Kt Go.Sp
variable{S S':Cs}{id:Int}{t:List UInt8}{T:Cs}{g:Int}
def Has.cD(h:Inv S)(r:S.bz.next<16777216)(H:Has S id t)(k:Int×Int)(g:Int):Has (S.cD k g).1 id t:=by
 unfold Cs.cD;dsimp only;split;·exact H
 ·next n=>
  have w:S.live g=true:=by
   cases a:S.live g with
   |true=>rfl
   |false=>exact absurd (.inr a) n
  have hf:ed S.files k=true:=by
   cases a:ed S.files k with
   |true=>rfl
   |false=>exact absurd (.inl a) n
  by_cases hm:S.bz.of k<0
  ·rw[dh hm];simp only[fP];obtain⟨kf,ki⟩:=k;have i:=rJ hf;have b:=oe S.bz (kf:=kf) (ki:=ki) (o:=g) ⟨h.ct.next,r⟩ (.inr hm);rw[show(S.bz.make kf ki g).2.1=S.bz.next by rw[b.1]];have v:=h.toInv0.make r (kf:=kf) (ki:=ki) w (.inr ⟨hm,hf⟩);have j:fX S.bz kf ki=(kf,ki):=by unfold fX;rw[bJ (by have:0<=kf:=i;omega)]
   have d:∀x p,(S.bz.make kf ki g).1.pg x=some p->p.kf<0->p.place≠0:=by
    intro x q e c;rw[b.2.2]at e;split at e
    ·rw[<- cQ e,j]at c;have:kf<0:=c;have:0<=kf:=i;omega
    ·exact h.anon _ _ e c
   have m:Inv {S with bz:=(S.bz.make kf ki g).1} :=⟨v,d⟩
   have f:id≠S.bz.next:=by have:=H.lt h.toInv0;omega
   have s:Has {S with bz:=(S.bz.make kf ki g).1} id t:=H.same h (by show(S.bz.make kf ki g).1.pg id=_;rw[b.2.2,bJ f]) ⟨rfl,rfl⟩ ⟨rfl,rfl⟩;have l:=s.cb m S.bz.next g;have u:=m.cb S.bz.next g;split;·exact l
   ·refine l.same u ?_ ⟨rfl,rfl⟩ ⟨rfl,rfl⟩;show(TS.drop _ _).1.pg id=_;unfold TS.drop;split;·rfl
    ·split;·rfl
     ·exact c9 _ _ f
  ·rw[c4 hm];simp only[kK,gq];have:=H.cb h (S.bz.of k) g;split<;>exact this
def xq{x:Int}(a:(S.here x).2=true):∃p,S.bz.pg x=some p/\p.place=1/\(S.here x).1=p.at_:=by
 unfold Cs.here TS.get at a;cases hp:S.bz.pg x with
 |none=>rw[hp]at a;simp at a
 |some p=>
  rw[hp]at a;refine⟨p,rfl,by simpa using a,?_⟩;unfold Cs.here TS.get;rw[hp]
def Has.put(h:Inv S)(H:Has S id t){x:Int}(hx:x≠id)(a:Int)(b:UInt8):Has (S.put x a b).1 id t:=by
 unfold Cs.put;dsimp only;split;·exact H
 ·next d=>
  have d:(S.here x).2=true:=by simpa using d
  obtain⟨p,hp,h1,he⟩:=xq d;split
  ·have f:=(h.ct.pl _ _ hp).1.2.2.1;refine H.dX h (λq c _ _=>⟨q,?_,rfl,rfl,rfl,rfl⟩) (λq c e=>?_) (λq _ _=>rfl)
   ·show(S.bz.mark x true).1.pg id=_;rw[(od _ _ _).2.2.2,c];show some (if id=x then _ else q)=_;rw[bJ (λe=>hx e.symm)]
   ·have g:=(h.ct.pl _ _ c).1.2.2.1;show By.rd S.fr.bK.length (By.pt S.fr.bK.length S.fr.cG (S.here x).1 a b).1 q.at_=_;rw[he];exact By.xp f g (λi=>hx (h.ct.one c hp bA bA i))
  ·exact H
def Has.bX(h:Inv S)(H:Has S id t){x:Int}(hx:x≠id)(n:Int):Has (S.bX x n).1 id t:=by
 rcases rK h x n with⟨_,he⟩|⟨p,hp,⟨_,he⟩|⟨_,_,he⟩|⟨_,_,_,_,_,g,_,_,f,i,_⟩⟩
 ·rw[he];exact H
 ·rw[he];exact H
 ·rw[he];exact H.same h (c9 _ _ (λe=>hx e.symm)) ⟨rfl,rfl⟩ ⟨rfl,rfl⟩
 ·have c:=(h.ct.pl _ _ hp).1.2.2.1;refine H.dX h (λq a _ _=>⟨q,by rw[g,bJ (λe=>hx e.symm)];exact a,rfl,rfl,rfl,rfl⟩) (λq a e=>?_) (λq a e=>?_)
  ·rw[f];by_cases b:p.place=1
   ·rw[bM b];exact ox rfl h.fr.len c (h.ct.pl _ _ a).1.2.2.1 (λd=>hx (h.ct.one a hp bA bA d))
   ·rw[bJ b]
  ·rw[i];by_cases b:p.place=2
   ·rw[bM b];exact ox rfl h.sl.len c (h.ct.pl _ _ a).1.2.2.1 (λd=>hx (h.ct.one a hp bA bA d))
   ·rw[bJ b]
def Has.remove(h:Inv S)(H:Has S id t)(g:Int):Has (S.remove g).1 id t:=by
 unfold Cs.remove;dsimp only;split
 ·refine H.dX h (λq a _ _=>⟨if q.owner=g then {q with owner:=lT S.tree g} else q,?_,?_,?_,?_,?_⟩) (λq _ _=>rfl) (λq _ _=>rfl)
  ·show(S.bz.dq (S.bz.ee g) (lT S.tree g)).pg id=_;rw[tp h.ct,a];rfl
  all_goals split<;>rfl
 ·exact H
def Has.bZ(h:Inv S)(H:Has S id t)(p:Int):Has (S.bZ p).1 id t:=by
 unfold Cs.bZ;dsimp only;split;·exact H.same h rfl ⟨rfl,rfl⟩ ⟨rfl,rfl⟩
 ·exact H
def Has.cf(h:Inv S)(H:Has S id t)(g c5 n:Int):Has (S.cf g c5 n).1 id t:=by
 have key:∀r:Cs×Int,r.1.bz=S.bz->r.1.fr.bK=S.fr.bK/\r.1.fr.cG=S.fr.cG->r.1.sl.bK=S.sl.bK/\r.1.sl.cG=S.sl.cG->Has r.1 id t:=
  λr h1 a b=>H.same h (by rw[h1]) ⟨by rw[a.1],a.2⟩ ⟨by rw[b.1],b.2⟩
 unfold Cs.cf;split;·exact H
 split;·exact H
 split;·exact key _ rfl ⟨rfl,rfl⟩ ⟨rfl,rfl⟩
 split;·exact key _ rfl ⟨rfl,rfl⟩ ⟨rfl,rfl⟩
 split;·exact key _ rfl ⟨rfl,rfl⟩ ⟨rfl,rfl⟩
 split;·exact key _ rfl ⟨rfl,rfl⟩ ⟨rfl,rfl⟩
 split
 ·split;·exact H
  ·exact key _ rfl ⟨rfl,rfl⟩ ⟨rfl,rfl⟩
 ·exact H
def Has.act(h:Inv S)(b:S.bz.next<16777216)(H:Has S id t)(x:Act)(hx:¬ (x.b=id/\(x.k.tmod 12=7\/x.k.tmod 12=9))):Has (S.act x).1 id t:=by
 exact oY (P:=λr=>Has r.1 id t) S x (λ_=>H.bZ h _) (λ_=>H.remove h _) (λ_=>H.cf h _ _ _) (λ_=>H.fresh h b _) (λ_=>H.cD h b _ _) (λ_=>H.cb h _ _) (λ_=>H.copy h b _ _)
  (λe=>H.put h (λa=>hx ⟨a,.inl e⟩) _ _) (λ_=>H.get h _ _) (λe=>H.bX h (λa=>hx ⟨a,.inr e⟩) _) (λ_=>H.same h rfl ⟨rfl,rfl⟩ ⟨rfl,rfl⟩) (λ_=>H.outs h (rM h _ _))
def Base.trans{A B C:Cs}(h:Base A B)(k:Base B C):Base A C:=⟨k.tree.trans h.tree,k.guards.trans h.guards,k.bP.trans h.bP⟩
def Base.live(h:Base S S')(g:Int):S'.live g=S.live g:=by unfold Cs.live;rw[h.tree]
def hQ.trans{A B C:Cs}(h:hQ A B)(k:hQ B C):hQ A C:=⟨h.toBase.trans k.toBase,λx=>(k.kr x).trans (h.kr x)⟩
def hQ.of(h:Base S S')(hp:∀x,S'.bz.pg x=S.bz.pg x):hQ S S':=⟨h,λx=>by rw[hp]⟩
end Go.Kc
namespace Go.Kw
open Go Go.Kc Go.Kt
def uE(a b:Int)(l:bU):(Kc.new a b l).live 0=true:=rfl
def uF{V:Vs}(h:V.core.live 0=true):V.act ⟨3,0,0,0,0⟩=if 64<=V.procs.length then(V,.bad 3)else({V with procs:=V.procs++[(0,some Sp.new)]},⟨0,V.procs.length,[]⟩):=by
 unfold Vs.act;rw[bJ bO,bJ bO,bJ bO,bM rfl];show(if V.core.live 0=false then _ else _)=_;rw[bJ (by rw[h];decide)]
def aI0{V:Vs}{i:Int}(h:V.procs[i.toNat]?=some (0,some Sp.new))(b:0<=i):V.act ⟨11,i,0,0,0⟩=(⟨V.core,V.procs.set i.toNat (0,none)⟩,.zero):=by
 have a:=jS h;rw[show((i.toNat:Nat):Int)=i by omega]at a;have e:V.exit i=⟨V.core,V.procs.set i.toNat (0,none)⟩:=by
  rw[ux a.1,a.2];rfl
 rw[AK ⟨by show(4:Int)<=11;decide,by show(11:Int)<=11;decide⟩];dsimp only;rw[a.1];dsimp only;unfold Vs.call;dsimp only;rw[bJ bO,bJ bO,bJ bO,bJ bO,bJ bO,bJ bO,bJ bO,e]
end Go.Kw
namespace Go.Mp
open Go Go.Vc Go.Sp Go.Proofs Go.Kc Go.Kw Go.Kt
variable{E:Env}{L:ch}{w W:World}{A:At}{v:Nat}{V:Vs}
def dR:List c7:=[⟨3,0,0,0,0⟩,⟨5,0,2,0,0⟩,⟨9,0,20,7,0⟩,⟨8,0,20,0,0⟩,⟨8,0,21,0,0⟩]
def nR:(dv (Vs.new 4 4 []) dR).2.map (λa=>(a.err,a.n))= [(0,0),(0,0),(0,0),(0,7),(0,0)]:=by decide+kernel
def nS{k:Nat}{e n:Int}(h: [((0:Int),(0:Int)),(0,0),(0,0),(0,7),(0,0)][k]?=some (e,n)):∃a,(dv (Vs.new 4 4 []) dR).2[k]?=some a/\a.err=e/\a.n=n:=by
 rw[<- nR,ew]at h;cases b:(dv (Vs.new 4 4 []) dR).2[k]? with
 |none=>rw[b]at h;cases h
 |some a=>rw[b]at h;cases h;exact⟨a,rfl,rfl,rfl⟩
def xr{o:Array Obj}(h:Sep E (cy o::L) w):Calls P q3 #[] w (bW λx w'=>x=.bool true/\Sep E (cy o::L) w'):=by
 apply xo;unfold q4 qJ qL qR qU qW qg qy zL zW zw zx;refine Al.i h (λp X h1=>?_);have h1:Sep E (cy o::bE p (bQ dO dR)::L) X:=h1.swap;refine use (wY (fr:=4) (sl:=4) (sz:=⟨none,0,0⟩) (l:=[]) (ol:=⟨some ⟨p,0,none⟩,5,5⟩) (os:=dR) (L:=bE p (bQ dO dR)::L) (o:=o) ⟨rfl,λw _ i x hx=>by cases hx⟩ (dN _) (kn.gY (q:=0) (c:=5) (os:=dR) rfl) bO h1) ?_;rintro _ w2 ⟨s,rfl,g⟩;have hlen:s.n=5:=(dQ.len 0 g rfl).trans (sa dR _);obtain⟨M,G,V,_⟩:=nS (k:=2) rfl;obtain⟨a3,H,_,T⟩:=nS (k:=3) rfl;obtain⟨a4,z,W,U⟩:=nS (k:=4) rfl;generalize (dv (Vs.new 4 4 []) dR).2=u at g G H z;have g:Sep E (cy o::dQ s u::bE p (bQ dO dR)::L) w2:=g.swap;refine⟨s,rfl,oy (fr:=4) (sl:=4) (sz:=⟨none,0,0⟩) (l:=[]) ⟨rfl,λw _ i x hx=>by cases hx⟩ (dN _) g (λA v aa ho N=>⟨_,rfl,λw'=>St E A v (Vs.new 4 4 []) (dQ s u::bE p (bQ dO dR)::L) w',bF rfl (bF (by rw[hlen];rfl) N),?_⟩)⟩;intro _ Y I;refine⟨⟨p,0,none⟩,rfl,⟨bO,bO⟩,?_⟩;have m:∀j x,(bQ dO dR)[j]?=some x->Y.cell? (Addr.add ⟨p,0,none⟩ j)=some x:=λj x hx=>I.cell (k:=1) rfl hx;refine⟨_,m 0 _ rfl,_,m 1 _ rfl,_,m 2 _ rfl,_,m 3 _ rfl,_,m 4 _ rfl,?_⟩;have C:(Vs.new 4 4 []).act ⟨3,0,0,0,0⟩=({Vs.new 4 4 []with procs:=[(0,some Kw.Sp.new)]},⟨0,0,[]⟩):=by
  rw[uF (uE 4 4 [])];rfl
 refine St.gX (o:=⟨3,0,0,0,0⟩) I (fU.new 4 4 []) (by rw[sq];decide) (λZ q ab r B D n5=>?_);rw[C]at B D n5 r;dsimp only at B D n5 r;refine B.procs D (λpl K t e=>⟨pl,rfl,?_⟩);have n:=e.right;have d:∀(i:Int) (k:Nat) (a:cE) {F:Addr->Prop},i=k->u[k]?=some a->(∀a0:Addr,K.cell? (a0.add 0)=some (Iv a.err)->K.cell? (a0.add 1)=some (Iv a.n)->F a0)->cx s.p s.n i 3 F:=λi k a F R O f=>dQ.el 3 n rfl R O f;refine d 2 2 M rfl G (λx hx _=>⟨_,hx,bT (by rw[V];rfl) (d 3 3 a3 rfl H (λx _ hx=>⟨_,hx,bT (by rw[T];rfl) (d 4 4 a4 rfl z (λx _ hx=>⟨_,hx,bT (by rw[U];rfl) (d 4 4 a4 rfl z (λx hx _=>⟨_,hx,bT (by rw[W];rfl) ?_⟩))⟩))⟩))⟩);refine⟨_,e.cell (k:=1) (j:=0) rfl rfl,bT rfl (bT (by rw[t];rfl) ?_)⟩;refine kZ Pr.lJ 0 n rfl t (show(0:Int)=((0:Nat):Int)from rfl) (show _=some (⟨0,0,true⟩:Pr)from rfl) (λb _ Q=>⟨_,by rw[cj];exact Q 2 _ rfl,bT rfl ?_⟩);refine e.space (pid:=0) (λx hx=>⟨x,rfl,bT (by rw[hx];rfl) (e.space (pid:=1) (λy S=>⟨y,rfl,bT (by rw[S];rfl) (e.core ⟨_,rfl,rfl,?_⟩)⟩))⟩);have J:=e.drop;rw[ho]at J;exact J.ro 6 [0] rfl
def aFS{n exit:Int}(h:Sep E (cy W.heap::L) w):Calls P oE #[Iv n,Iv exit] w (bW λv w'=>v=.bool true/\Sep E (cy W.heap::L) w'):=by
 apply amZ;unfold TE qF qJ qL qO qR qU qg zW zx;refine use (xr h) ?_;rintro _ ad ⟨rfl,h1⟩;refine⟨_,rfl,bF rfl ⟨λw'=>(0<=n/\n<=80/\1<=exit/\exit<=9)/\Sep E (cy W.heap::L) w',cL (λ_=>⟨rfl,h1⟩) (λa=>eW (λ_=>⟨rfl,h1⟩) (λb=>cL (λ_=>⟨rfl,h1⟩) (λc=>eW (λ_=>⟨rfl,h1⟩) (λd=>⟨⟨a,b,c,d⟩,h1⟩)))),?_⟩⟩;rintro _ w2 ⟨⟨H,Z,T,U⟩,M⟩;refine oy (fr:=2) (sl:=2) (sz:=⟨none,0,0⟩) (l:=[]) ⟨rfl,λw _ i x hx=>by cases hx⟩ (dN _) M (λA v ae ho N=>⟨_,rfl,?_⟩);refine⟨λi w'=>∃(k:Nat) (V:Vs),i=k/\(k:Int)<=n/\fU V/\V.core=Kc.new 2 2 []/\V.procs.length=min k 64/\St E A v V L w',λi _=>(n-i).toNat,⟨0,Vs.new 2 2 [],rfl,H,fU.new 2 2 [],rfl,rfl,N⟩,?_⟩;rintro _ _ af ⟨k,V,rfl,ab,z,q,Q,C⟩;have aa:V.core.bz.next=0:=by rw[q];rfl
 refine cL (λY=>?_) (λX=>?_)
 ·have g:=uF (V:=V) (by rw[q];exact uE 2 2 []);refine C.gX (o:=⟨3,0,0,0,0⟩) z bA (λs p R r f t n5=>?_);have step:∀(V1:Vs) (w':World),fU V1->V1.core=Kc.new 2 2 []->V1.procs.length=min (k+1) 64->St E A v V1 L w'->
    (∃(y:Nat) (V:Vs),i64.wrap ((k:Int)+1)=y/\(y:Int)<=n/\fU V/\V.core=Kc.new 2 2 []/\V.procs.length=min y 64/\St E A v V L w')/\(n-i64.wrap ((k:Int)+1)).toNat<(n-(k:Int)).toNat:=λV1 w' a b c d=>by
   rw[c1];exact⟨⟨k+1,V1,rfl,bA,a,b,c,d⟩,bA⟩
  by_cases u:64<=V.procs.length
  ·rw[bM u]at g;rw[g]at f t r;have O:64<=k:=by omega
   refine⟨λw'=>St E A v V (bE p (dC (.bad 3) s)::bC s 1 (bD [])::L) w',bF (c4 bA) (bT (dh bA) ⟨_,f.cell (k:=0) (j:=0) rfl rfl,bF rfl ⟨_,f.cell (k:=0) (j:=1) rfl rfl,bF rfl f⟩⟩),?_⟩;intro _ B m;exact⟨_,m.cell (k:=0) (j:=0) rfl rfl,bF rfl (step V B z q bA m.tail.tail)⟩
  ·rw[bJ u]at g;rw[g]at f t r;have r:k=V.procs.length:=by omega
   refine⟨λw'=>St E A v {V with procs:=V.procs++[(0,some Kw.Sp.new)]} (bE p (dC ⟨0,V.procs.length,[]⟩ s)::bC s 1 (bD [])::L) w',bT (dh bA) ⟨_,f.cell (k:=0) (j:=0) rfl rfl,bF rfl ⟨_,f.cell (k:=0) (j:=1) rfl rfl,gV (λI=>absurd (show((V.procs.length:Nat):Int)=(k:Int) by omega) I) (λ_=>bF (c4 bA) f)⟩⟩,?_⟩;intro _ B m;refine⟨_,m.cell (k:=0) (j:=0) rfl rfl,bT rfl ⟨bA,eD (λ_=>?_) (λ_=>?_)⟩⟩
   ·have hp:({V with procs:=V.procs++[(0,some Kw.Sp.new)]} :Vs).procs[((k:Int)).toNat]?=some (0,some Kw.Sp.new):=by
     show(V.procs++[_])[((k:Int)).toNat]?=_;rw[fo bA,show((k:Int)).toNat-V.procs.length=0 by omega];rfl
    have hex:=aI0 hp bA;refine m.qS t (by show V.core.bz.next+66<_;omega) ⟨11,(k:Int),0,0,0⟩ (λJ S _ D K _=>⟨_,_,J,rfl,?_⟩);rw[hex]at D K;exact step _ S K q (by show(List.set _ _ _).length=_;rw[dA,da];simp only[lP];omega) D.tail.tail.tail
   ·exact step _ B t q (by show(V.procs++[_]).length=_;rw[da];simp only[lP];omega) m.tail.tail
 ·have F:(k:Int)=n:=by omega
  refine bT rfl (C.procs z (λl R G f=>⟨l,rfl,?_,by have:=f.tail.drop;rw[ho]at this;exact this⟩));rw[pH.2];have e:V.pr.length=V.procs.length:=eb _;rw[G,e,Q,<- F];unfold min1;split<;>omega
end Go.Mp
namespace Go.Proofs.YtafigbgagbolgaaGreatDoor
open Go Go.Vc Go.Sp Go.Mp Go.RowKit Go.ChangeShapes
def ay2(os:Os)(started:os.Started)(H:Type)(enc:TypeId×Value->H):
  ReturnsInHanded {} kX os oE .any (λw args=>(Rows.vmSpawnsSpec.pre enc P m3 [] false w args/\laidMetH P ih w)/\sizedMet enc P m3 (OpenSpec.ofChange Rows.vmSpawnsSpec) false w args) (Rows.vmSpawnsSpec.post enc P m3 false true false false):=by
 refine w1 (C:=kX) (tb:=vv) (X:=λw=>laidMetH P ih w) (λ_ _ g h=>h.of_heap g) own started cr GC
  (ChangeSpec.witness_shaped (enc:=enc) (C:=kX) (os:=os) (X:=λw _=>laidMetH P ih w) false (World.laidAll P os ih) #[.int .i64 0,.int .i64 0] 8 (World.laidAll_os _ _ _) (World.shaped_of_ZipB cr cr) cr cr cr (w4 os _))
  laidOut cr cr rfl cr ?_ ?_
 ·intro d gs e f
  match d,gs,e,f with
  |[d0,d1],[],_,_=>rfl
 ·intro W base args b a _ hx;have hw:=w5 hx;obtain⟨l,m,rfl⟩:=aMl b;have a0:=a 0 _ _ rfl rfl;have c:=a 1 _ _ rfl rfl;obtain⟨n,rfl,j⟩:=mZ a0;obtain⟨k,rfl,i⟩:=mZ c;refine use (aFS hw) ?_;rintro v w' ⟨rfl,h⟩;exact⟨_,rfl,rfl,w6 h⟩
def TF:Tryz.pinned.checked.prog.funcNamed Rows.vmSpawnsRow.func=some oE:=by kernel_rfl
def aEg:sc P m3 Rows.vmSpawnsSpec Rows.vmSpawnsRow=true:=by kernel_rfl
def aEh:sd P oE Rows.vmSpawnsRow=true:=by kernel_rfl
def aEi:se P oE Rows.vmSpawnsRow=true:=by kernel_rfl
def aEj:sf P oE Rows.vmSpawnsRow=true:=by kernel_rfl
def aEk:si P oE Rows.vmSpawnsRow=true:=by kernel_rfl
def aEl:sj P m3 Rows.vmSpawnsSpec Rows.vmSpawnsRow=true:=by kernel_rfl
def aEm:sk P m3 Rows.vmSpawnsSpec Rows.vmSpawnsRow=true:=by kernel_rfl
def aEn:sm P Rows.vmSpawnsRow=true:=by kernel_rfl
def aEo:sn P m3 Rows.vmSpawnsSpec Rows.vmSpawnsRow=true:=by kernel_rfl
def az2:Rows.VmSpawnsSaid:=
 OpenClaim.holds_of_wide oE m3 rfl rfl rfl rfl rfl rfl rfl ⟨rfl,rfl,rfl,rfl,rfl⟩ rfl rfl rfl rfl rfl TF GC
  (w3 aEg aEh aEi aEj aEk aEl aEm aEn aEo)
  (jL cr) (by unfold Func.isWrapper;rw[bJ (by decide+kernel)];exact⟨rfl,rfl⟩)
  (λos started H enc _=>ay2 os started H enc)
def aEp:Rows.vmSpawnsRow.wfByText (OpenSpec.ofChange Rows.vmSpawnsSpec)=true:=by kernel_rfl
def aBd:Tryz.pinned.checked.prog.mainIs=some (true, "6dae9ca1e3fae822e43264ec614d78dc4c2fe72aea56ab24750a95019e43a27c".toList):=by kernel_rfl
def az3:false=Tryz.pinned.checked.prog.looks []:=by kernel_rfl
def aBc:false=Rows.vmSpawnsRow.goesBy Tryz.pinned.checked.prog:=by kernel_rfl
def az4:(m3.params.toList.all λu=> !P.wantsStandIn u)=true:=by kernel_rfl
def vmSpawns_card:Rows.VmSpawnsCardSaid:=
 Claim7.holds_tied_plain_at .later [] [.data] true (true, "6dae9ca1e3fae822e43264ec614d78dc4c2fe72aea56ab24750a95019e43a27c") false
  az2 (λ_ h=>by cases h) aEp (λ_ h=>by cases h) vmSpawns_row_tie rfl ⟨rfl,rfl⟩ aBd rfl
  (λf fn hf a=>by
   obtain rfl:f=oE:=cQ (TF.symm.trans hf) |>.symm;obtain rfl:fn=m3:=(cQ (GC.symm.trans a)).symm;refine⟨az3,λj t b=>?_⟩;have hm:t∈m3.params.toList:=by simpa using ku b
   exact(show P.wantsStandIn t=false by simpa using fB.1 az4 t hm))
  aBc
end Go.Proofs.YtafigbgagbolgaaGreatDoor
