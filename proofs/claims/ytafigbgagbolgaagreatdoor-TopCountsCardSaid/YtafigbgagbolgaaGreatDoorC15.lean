/- Part of a proof about the core: of its walks and plain laws. -/
import Derived.Test.YtafigbgagbolgaaGreatDoorC14
import Derived.HandedShaped
import Derived.LaidMore
import Derived.JoinedOf
import Derived.Lay
import Derived.OpenShut
import Derived.Stop.LaidErr
import Derived.Lib.LaidTab
import Derived.SevenTiedAt
import Derived.Test.YtafigbgagbolgaaGreatDoorRows
import Derived.Test.YtafigbgagbolgaaGreatDoorTie
import Derived.Test.YtafigbgagbolgaaGreatDoorCards
set_option linter.all false
set_option maxRecDepth 100000
open Go.IntKind(i64 u64)
namespace Go.Mp
open Go Go.Vc Go.Sp Go.Proofs Go.Kc Go.Kw Go.Kt
variable{E:Env}{L:ch}{w W:World}{A:At}{S:Cs}{v:Nat}{r:Sl}{ps:PS}
def jU(o:c7)(y:Option Rg):Int:=if o.c<0\/255<o.c then 1 else match y with
 |none=>14
 |some x=>if o.b<0 then 14 else if x.wr=false then 15 else 0
def SK{V:Vs}{pid:Int}{s:Kw.Sp}(o:c7):V.store pid s o.b o.c=if jU o (s.dg (o.b/16))≠0 then(V,.bad (jU o (s.dg (o.b/16))))else
  let x:=jH (s.dg (o.b/16));let r:=if x.kind=2 then V.there pid (o.b/16) s x .zero else V.own pid (o.b/16) s .zero
  match r.2.2 with
  |none=>(r.1,r.2.1)
  |some id=>
   let g:=r.1.core.put id (o.b%16) (UInt8.ofNat o.c.toNat)
   ({r.1 with core:=g.1}.cS pid (o.b/16),r.2.1):=by
 unfold Vs.store;dsimp only;generalize s.dg (o.b/16)=y;by_cases h1:o.c<0\/255<o.c
 ·have e:jU o y=1:=bM h1;simp only[e];rw[bM h1,bM bO]
 rw[bJ h1];have a:jU o y=match y with
  |none=>14
  |some x=>if o.b<0 then 14 else if x.wr=false then 15 else 0:=bJ h1
 cases y with
 |none=>
  have e:jU o none=14:=a;simp only[e];rw[bM bO]
 |some x=>
  have a:jU o (some x)=if o.b<0 then 14 else if x.wr=false then 15 else 0:=a
  by_cases b:o.b<0
  ·rw[bM b]at a;simp only[a];rw[bM b,bM bO]
  rw[bJ b]at a;by_cases c:x.wr=false
  ·rw[bM c]at a;simp only[a];rw[bJ b,bM c,bM bO]
  rw[bJ c]at a;simp only[a];rw[bJ b,bJ c,bJ (show ¬ ((0:Int)≠0) by decide)];rfl
def aKJ{c sp:Nat}{o:c7}{d:Sl}(aa:dF ps)(aC:r.n=ps.length)(aA:ps.length<=64)(aL:Kc.Inv S)(ai:S.bz.next+66<=16777216)(ao:d.n=0)(au:0<=o.a){g:Int}{s:Kw.Sp}(hp:ps[o.a.toNat]?=some (g,some (sp,s)))(h:Sep E (Vm A v r S ps (bE c (c3 o v sp cE.zero d)::bC d 1 (bD [])::L)) w):
  Calls P yy #[Pb c] w (bW (done E A v r c sp o L ps.length S (Vs.store ⟨S,plain ps⟩ o.a s o.b o.c))):=by
 have aj:=aa _ _ _ _ hp;obtain⟨K,a⟩:∃K,K=done E A v r c sp o L ps.length S (Vs.store ⟨S,plain ps⟩ o.a s o.b o.c):=⟨_,rfl⟩
 have ak:=SK (V:=⟨S,plain ps⟩) (pid:=o.a) (s:=s) o;rw[ak]at a;clear ak;obtain⟨y,ad⟩:∃y,s.dg (o.b/16)=y:=⟨_,rfl⟩
 rw[ad]at a;rw[SK,ad,<- a];apply aw6;unfold N7 qC qD qF qL qQ qU qZ qb qg qh qy zg zk;dsimp only;refine Al.i h (λl aY h1=>?_);have aM:=lh [bE l [Pb c]] h1;refine⟨some ⟨c,0,none⟩,h1.cell 0,use (SI aj hp aM) ?_⟩;rintro _ w2 ⟨rfl,am⟩;rw[ad];have am:=lL [bE l [Pb c]] am;refine⟨_,_,_,_,_,_,_,_,rfl,Al.i am (λp2 aZ aN=>Al.i aN (λp a0 aO=>St.i aO.swap (by show 0<1;decide) (λa1 aP=>eh _ aP.swap rfl (λaJ an=>?_))))⟩;have an:Sep E (bE p (jH y).vs::bE p2 [Iv (o.b/16)]::bE l [Pb c]::Vm A v r S ps (bE c (c3 o v sp cE.zero d)::bC d 1 (bD [])::L)) aJ:=an;have n:=lh [bE p (jH y).vs,bE p2 [Iv (o.b/16)],bE l [Pb c]] an;obtain⟨F,aX⟩:∃F,F= [bE p (jH y).vs,bE p2 [Iv (o.b/16)],bE l [Pb c]]:=⟨_,rfl⟩
 have D:∀ {w:World} (e:Int),Sep E (Vm A v r S ps (bE c (c3 o v sp cE.zero d)::bC d 1 (bD [])::([bE p (jH y).vs,bE p2 [Iv (o.b/16)],bE l [Pb c]]++L))) w->∀f:bh6,(∀w',Sep E (Vm A v r S ps (bE c (c3 o v sp (cE.bad e) d)::bC d 1 (bD [])::([bE p (jH y).vs,bE p2 [Iv (o.b/16)],bE l [Pb c]]++L))) w'->f w')->St ⟨c,7,none⟩ (Iv e) f w:=by
  intro w e aQ f k;refine St.i (Vm.fg [_] aQ) (by show 7<10;decide) (λw' h'=>k w' (Vm.hn [bE c (c3 o v sp (cE.bad e) d)] h'))
 refine⟨λw'=>Sep E (Vm A v r S ps (bE c (c3 o v sp (cE.bad (jU o y)) d)::bC d 1 (bD [])::([bE p (jH y).vs,bE p2 [Iv (o.b/16)],bE l [Pb c]]++L))) w',
  ⟨λb w'=>b=decide (o.c<0\/255<o.c)/\w'=aJ,⟨some ⟨c,0,none⟩,Vm.cell n 4 rfl 0,_,rfl,o.c,Vm.cell n 0 rfl 3,cL (λt=>⟨(dh (.inl t)).symm,rfl⟩) (λt=>⟨some ⟨c,0,none⟩,Vm.cell n 4 rfl 0,_,rfl,o.c,Vm.cell n 0 rfl 3,?_,rfl⟩)⟩,?_⟩,?_⟩
 ·exact pC.2 ⟨λe=>.inr e,λe=>e.elim (λe=>bA) id⟩
 ·rintro _ _ _ ⟨rfl,rfl⟩;refine cw (λt=>⟨some ⟨c,0,none⟩,Vm.cell n 4 rfl 0,_,rfl,D 1 n _ (λw' h'=>?_)⟩) (λt=>cw (λaE=>⟨some ⟨c,0,none⟩,Vm.cell n 4 rfl 0,_,rfl,D 14 n _ (λw' h'=>?_)⟩) (λI=>⟨(jH y).wr,Vm.cell n 2 rfl 5,cw (λY=>⟨some ⟨c,0,none⟩,Vm.cell n 4 rfl 0,_,rfl,D 15 n _ (λw' h'=>?_)⟩) (λY=>?_)⟩))
  ·have e:jU o y=1:=by unfold jU;rw[bM (jL t)]
   rw[e];exact h'
  ·have e:jU o y=14:=by
    unfold jU;rw[bJ (jo t)];cases y with
    |none=>rfl
    |some x=>
     have:¬ o.b≥0:=by simpa using aE
     dsimp only;rw[eG]
   rw[e];exact h'
  ·obtain⟨x,rfl⟩:∃x,y=some x:=by cases y with
    |none=>cases I
    |some x=>exact⟨x,rfl⟩
   have ag:0<=o.b:=by simpa using I
   have hw:x.wr=false:=by simpa[jH]using Y
   have e:jU o (some x)=15:=by unfold jU;rw[bJ (jo t)];dsimp only;rw[cM,bM hw]
   rw[e];exact h'
  ·obtain⟨x,rfl⟩:∃x,y=some x:=by cases y with
    |none=>cases I
    |some x=>exact⟨x,rfl⟩
   have ag:0<=o.b:=by simpa using I
   have hw:¬ x.wr=false:=by
    have:x.wr=true:=by simpa[jH]using Y
    rw[this];decide
   have e:jU o (some x)=0:=by unfold jU;rw[bJ (jo t)];dsimp only;rw[cM,bJ hw]
   rw[e];exact n
 rintro _ af i;refine⟨some ⟨c,0,none⟩,Vm.cell i 4 rfl 0,_,rfl,jU o y,Vm.cell i 0 rfl 7,gV (λaD=>?_) (λheq=>?_)⟩
 ·rw[bM aD]at a;rw[a];exact⟨rfl,.nil _ _,ps,d,aa,rfl,rfl,ao,(lL (out:=cE.bad (jU o y)) [_,_,_] i).right⟩
 rw[cM]at a;have Z:∃x,y=some x/\0<=o.b/\(0<=o.c/\o.c<=255):=by
  unfold jU at heq;split at heq;·omega
  ·next t=>
   cases y with
   |none=>cases heq
   |some x=>
    dsimp only at heq;split at heq;·omega
    ·exact⟨x,rfl,bA,bA⟩
 rw[heq]at i;obtain⟨x,rfl,ag,aS⟩:=Z;have i:Sep E (Vm A v r S ps (bE c (c3 o v sp cE.zero d)::bC d 1 (bD cE.zero.bI)::([bE p x.vs,bE p2 [Iv (o.b/16)],bE l [Pb c]]++L))) af:=i;have X:=EJ aj ad;have aH:=Rg.fc X.2.2.1;have aF:jH (some x)=x:=rfl;rw[aF]at a;dsimp only at a;obtain⟨Q,N⟩:∃Q,(if x.kind=2 then Vs.there ⟨S,plain ps⟩ o.a (o.b/16) s x .zero else Vs.own ⟨S,plain ps⟩ o.a (o.b/16) s .zero)=Q:=⟨_,rfl⟩
 rw[N]at a;refine⟨λfv w'=>eX P fv #[] w' (bW (kG E A v r c sp o ([bE p x.vs,bE p2 [Iv (o.b/16)],bE l [Pb c]]++L) ps.length S Q)),⟨x.kind,Vm.cell i 2 rfl 2,eD (λR=>⟨_,_,rfl,by kernel_rfl,?_⟩) (λR=>⟨_,_,rfl,by kernel_rfl,?_⟩)⟩,?_⟩
 ·show Calls P Jh #[Pb l,Pb p2,Pb p] af _;rw[bM R]at N;apply atV;unfold Oq qD qb qp zR;have q:∀j,af.cell? ⟨p,j,none⟩=x.vs[j]? :=λj=>Vm.cell i 2 rfl j;refine⟨some ⟨c,0,none⟩,Vm.cell i 4 rfl 0,o.b/16,Vm.cell i 3 rfl 0,_,q 0,_,q 1,_,q 2,_,q 3,_,q 4,_,q 5,use (SG (bH:=o.b/16) aH ⟨X.1,X.2.1⟩ aa aC aA aL ai ao rfl au hp i) ?_⟩;rintro z aK C;obtain⟨aR,b,rfl⟩:=C.eQ;rw[N]at C;exact⟨_,_,rfl,C⟩
 ·show Calls P Jf #[Pb l,Pb p2] af _;rw[bJ R]at N;apply atU;unfold Om qD qb qp;refine⟨some ⟨c,0,none⟩,Vm.cell i 4 rfl 0,o.b/16,Vm.cell i 3 rfl 0,use (aLU (bH:=o.b/16) aa aC aA aL ai ao rfl au hp i) ?_⟩;rintro z aK C;obtain⟨aR,b,rfl⟩:=C.eQ;rw[N]at C;exact⟨_,_,rfl,C⟩
 rintro _ fv aK H;refine o8 H ?_;rintro z a2 ⟨ae,U,cF,M,J,hlen,T,ah,ab,ay⟩;clear N H;cases ap:Q.2.2 with
 |none=>
  rw[ap]at ae a;subst ae;refine⟨_,_,rfl,bF rfl ?_⟩;rw[a];exact⟨rfl,U,cF,M,J,hlen,T,ah,(lL [_,_,_] ay).right⟩
 |some id=>
  rw[ap]at ae a;subst ae;obtain⟨ar,s',B⟩:=ab (by rw[ap];rfl);have az:=U.inv aL bA;obtain⟨aq,aB⟩:∃aq:Nat,o.b=aq:=⟨o.b.toNat,bA⟩
  have hand:bV .i64 o.b 15=o.b%16:=by rw[aB,vR];omega
  obtain⟨u,al⟩:∃u:UInt8,UInt8.ofNat o.c.toNat=u:=⟨_,rfl⟩
  have aG:IntKind.u8.wrap o.c=(u.toNat:Int):=by
   rw[<- al,UInt8.toNat_ofNat'];unfold IntKind.wrap;simp only[IntKind.signed,IntKind.bits,xz];rw[bJ bO];omega
  have W:Vs.space ⟨(Q.1.core.put id (o.b%16) u).1,Q.1.procs⟩ o.a=some s'/\Vs.group ⟨(Q.1.core.put id (o.b%16) u).1,Q.1.procs⟩ o.a=ar:=by
   have ax:=ig B;rw[T]at ax;have:=jS (V:=⟨(Q.1.core.put id (o.b%16) u).1,Q.1.procs⟩) ax;rwa[show((o.a.toNat:Nat):Int)=o.a by omega]at this
  dsimp only at a;rw[al,SJ W.1,W.2]at a;refine⟨_,_,rfl,bT rfl (Dr.i ay (λaT m=>⟨some ⟨c,0,none⟩,Vm.cell m 4 rfl 0,_,rfl,some ⟨v,0,none⟩,Vm.cell m 0 rfl 5,_,rfl,some ⟨A.c,0,none⟩,m.cellAt 16 rfl 0,some ⟨c,0,none⟩,Vm.cell m 4 rfl 0,_,rfl,o.b,Vm.cell m 0 rfl 2,some ⟨c,0,none⟩,Vm.cell m 4 rfl 0,_,rfl,o.c,Vm.cell m 0 rfl 3,?_⟩))⟩;rw[hand,aG];refine use (uo (id:=id) (at_:=o.b%16) (x:=u) az.1 m) ?_;rintro _ aI ⟨rfl,O⟩;have O:Sep E (Vm A v r (Q.1.core.put id (o.b%16) u).1 cF (bE c (c3 o v sp Q.2.1 M)::bC M 1 (bD Q.2.1.bI)::([bE p x.vs,bE p2 [Iv (o.b/16)],bE l [Pb c]]++L))) aI:=O;refine⟨_,rfl,Dr.i O (λaU G=>⟨some ⟨c,0,none⟩,Vm.cell G 4 rfl 0,_,rfl,some ⟨sp,0,none⟩,Vm.cell G 0 rfl 6,o.b/16,Vm.cell G 3 rfl 0,use (Qd (o.b/16) (J _ _ _ _ B) (Vm.op B G)) ?_⟩)⟩;rintro _ aV ⟨⟨aW,rfl⟩,av⟩;have aw:=Vm.sh B av;refine⟨_,rfl,?_⟩;rw[a];exact⟨rfl,U.trans (cv.put id (o.b%16) u),cF.set o.a.toNat (ar,some (sp,s'.cS (o.b/16))),M,J.set ((J _ _ _ _ B).cS _),by rw[dA];exact hlen,by rw[qs,T],ah,(lL [_,_,_] aw).right⟩
def Vm.r8{c sp:Nat}{o:c7}{a:Sl}{out out':cE}{j:Nat}{x:Value}{f:bh6}(b:j<10)(he:(c3 o v sp out a).set j x=c3 o v sp out' a)(h:Sep E (Vm A v r S ps (bE c (c3 o v sp out a)::L)) w)(k:∀w',Sep E (Vm A v r S ps (bE c (c3 o v sp out' a)::L)) w'->f w'):St ⟨c,j,none⟩ x f w:=
 St.i (Vm.fg [_] h) b (λw' h'=>k w' (Vm.hn [bE c (c3 o v sp out' a)] (he▸h')))
def SL(n:Int)(w:World):Calls P CI #[Iv n] w (bW λx w'=>x=.bool (decide (0<=n/\n<=65536))/\w'=w):=by
 apply atT;refine hN (λa=>⟨?_,rfl⟩) (λa=>⟨?_,rfl⟩);·exact eO Value.bool (pC.2 ⟨λe=>⟨a,e⟩,λe=>e.2⟩)
 ·exact eO Value.bool (c4 λe=>bA).symm
def F4{c sp:Nat}{o:c7}{i:Sl}(h:Sep E (Vm A v r S ps (bE c (c3 o v sp cE.zero i)::L)) w):
  Calls P yE #[Pb c] w (bW λx w'=>x=.bool (decide (kB o.b o.c))/\Sep E (Vm A v r S ps (bE c (c3 o v sp (if kB o.b o.c then cE.zero else cE.bad 1) i)::L)) w'):=by
 apply aw5;unfold Oe qF qL;refine⟨_,rfl,o.b,Vm.cell h 0 rfl 2,use (SL o.b w) ?_⟩;rintro _ l ⟨rfl,rfl⟩;refine⟨_,rfl,cw (λb=>⟨_,rfl,?_⟩) (λf=>⟨_,rfl,o.c,Vm.cell h 0 rfl 3,use (SL o.c _) ?_⟩)⟩
 ·have a:¬ kB o.b o.c:=λe=>by
   have:¬ (0<=o.b/\o.b<=65536):=jo (by simpa only[hR]using b);exact this e.1
  rw[bJ a,c4 a];exact Vm.r8 (j:=7) (out:=cE.zero) (out':=cE.bad 1) bO rfl h (λw' h'=>⟨rfl,h'⟩)
 ·rintro _ w2 ⟨rfl,rfl⟩;have k:0<=o.b/\o.b<=65536:=by simpa using f
  refine⟨_,rfl,cw (λb=>⟨_,rfl,?_⟩) (λd=>?_)⟩
  ·have a:¬ kB o.b o.c:=λe=>by
    have:¬ (0<=o.c/\o.c<=65536):=jo (by simpa only[hR]using b);exact this e.2
   rw[bJ a,c4 a];exact Vm.r8 (j:=7) (out:=cE.zero) (out':=cE.bad 1) bO rfl h (λw' h'=>⟨rfl,h'⟩)
  ·have g:kB o.b o.c:=⟨k,by simpa using d⟩
   rw[bM g,dh g];exact⟨rfl,h⟩
def SM{g:Int}{i:Nat}{pid:Int}{q:Nat×Kw.Sp}(b:0<=pid)(a:pid.toNat=i)(hp:ps[i]?=some (g,some q))(s:Option Kw.Sp):Vs.fl ⟨S,plain ps⟩ pid s=⟨S,(plain ps).set i (g,s)⟩:=by
 unfold Vs.fl;have:=(jS (V:=⟨S,plain ps⟩) (ig hp)).2;rw[show(i:Int)=pid by omega]at this;rw[this,a]
def SN{c sp:Nat}{o:c7}{a:Sl}{x:Rg}(i:dF ps)(t:a.n=0)(n:0<=o.a){g:Int}{s:Kw.Sp}(hp:ps[o.a.toNat]?=some (g,some (sp,s)))(h:Sep E (Vm A v r S ps (bE c (c3 o v sp cE.zero a)::bC a 1 (bD [])::L)) w){F:bh6}(k:∀w',done E A v r c sp o L ps.length S (Vs.map ⟨S,plain ps⟩ o.a s x) (.tuple #[]) w'->F w'):
  Calls P yF #[Pb sp,.agg x.vs.toArray] w λf l=>∃d:Int,f=.returned (Iv d)/\NN (some ⟨c,0,none⟩) λe=>St ((e.add 7).add 0) (Iv d) (λm=>F m) l:=by
 have b:=i _ _ _ _ hp;refine use (aKG x b (Vm.op hp h)) ?_;rintro _ u ⟨rfl,h1⟩;have p:=Vm.sh hp h1;refine⟨_,rfl,_,rfl,Vm.r8 (j:=7) (out:=cE.zero) (out':=cE.bad (s.map x).2) bO rfl p (λw2 q=>k w2 ?_)⟩;unfold Vs.map;rw[SM n rfl hp];exact⟨rfl,.nil _ _,_,a,i.set (b.map x),by rw[dA],qs,t,q⟩
def aIN{c sp:Nat}{o:c7}{d:Sl}(f:dF ps)(e:d.n=0)(k:0<=o.a){g:Int}{s:Kw.Sp}(hp:ps[o.a.toNat]?=some (g,some (sp,s)))(h:Sep E (Vm A v r S ps (bE c (c3 o v sp cE.zero d)::bC d 1 (bD [])::L)) w):
  Calls P yu #[Pb c] w (bW (done E A v r c sp o L ps.length S (if kB o.b o.c then Vs.map ⟨S,plain ps⟩ o.a s ⟨o.c,o.c+o.b,1,0,0,true⟩else(⟨S,plain ps⟩,.bad 1)))):=by
 apply Z7;unfold N3 qF qL qQ qZ;dsimp only;refine use (F4 h) ?_;rintro _ m ⟨rfl,h1⟩;by_cases a:kB o.b o.c
 ·rw[bM a]at h1 ⊢;obtain⟨⟨b0,b1⟩,i,j⟩:=a;refine⟨_,rfl,bT (dh ⟨⟨b0,b1⟩,i,j⟩) (Dr.i h1 (λw2 b=>⟨_,rfl,some ⟨sp,0,none⟩,Vm.cell b 0 rfl 6,_,rfl,o.c,Vm.cell b 0 rfl 3,_,rfl,o.c,Vm.cell b 0 rfl 3,_,rfl,o.b,Vm.cell b 0 rfl 2,?_⟩))⟩;rw[cH (n:=o.c+o.b) bA bA];exact SN (x:=⟨o.c,o.c+o.b,1,0,0,true⟩) f e k hp b (λ_ l=>l)
 ·rw[bJ a]at h1 ⊢;exact⟨_,rfl,bF (c4 a) ⟨rfl,.nil _ _,ps,d,f,rfl,rfl,e,h1⟩⟩
def aGS{c sp:Nat}{o:c7}{b:Sl}(t:dF ps)(p:b.n=0)(D:0<=o.a){g:Int}{s:Kw.Sp}(hp:ps[o.a.toNat]?=some (g,some (sp,s)))(h:Sep E (Vm A v r S ps (bE c (c3 o v sp cE.zero b)::bC b 1 (bD [])::L)) w):
  Calls P yv #[Pb c] w (bW (done E A v r c sp o L ps.length S (if kB o.b o.c then
   (if o.d<0\/(S.files.bP.length:Int)<=o.d\/nm S.files o.d<o.b then(⟨S,plain ps⟩,.bad 1)else Vs.map ⟨S,plain ps⟩ o.a s ⟨o.c,o.c+o.b,2,o.d,0,true⟩)else(⟨S,plain ps⟩,.bad 1)))):=by
 apply Z8;unfold N4 qF qL qQ qZ qg zH;refine use (F4 h) ?_;rintro _ I ⟨rfl,h1⟩;by_cases e:kB o.b o.c
 ·rw[bM e]at h1 ⊢;obtain⟨⟨b0,b1⟩,B,C⟩:=e;have bad:∀ {w:World},(o.d<0\/(S.files.bP.length:Int)<=o.d\/nm S.files o.d<o.b)->Sep E (Vm A v r S ps (bE c (c3 o v sp cE.zero b)::bC b 1 (bD [])::L)) w->∀f:bh6,(∀w',done E A v r c sp o L ps.length S (if o.d<0\/(S.files.bP.length:Int)<=o.d\/nm S.files o.d<o.b then(⟨S,plain ps⟩,cE.bad 1)else Vs.map ⟨S,plain ps⟩ o.a s ⟨o.c,o.c+o.b,2,o.d,0,true⟩) (.tuple #[]) w'->f w')->St ⟨c,7,none⟩ (Iv 1) f w:=by
   intro w F h' f G;refine Vm.r8 (j:=7) (out:=cE.zero) (out':=cE.bad 1) bO rfl h' (λw' u=>G w' ?_);rw[bM F];exact⟨rfl,.nil _ _,ps,b,t,rfl,rfl,p,u⟩
  refine⟨_,rfl,bF (by rw[dh ⟨⟨b0,b1⟩,B,C⟩];rfl) ⟨λw'=>¬ (o.d<0\/(S.files.bP.length:Int)<=o.d\/nm S.files o.d<o.b)/\Sep E (Vm A v r S ps (bE c (c3 o v sp cE.zero b)::bC b 1 (bD [])::L)) w',Dr.i h1 (λw2 a=>⟨_,rfl,o.d,Vm.cell a 0 rfl 4,cL (λk=>⟨_,rfl,bad (.inl k) a _ (λ_ q=>q)⟩) (λk=>⟨_,rfl,o.d,Vm.cell a 0 rfl 4,_,rfl,some ⟨v,0,none⟩,Vm.cell a 0 rfl 5,_,rfl,some ⟨A.c,0,none⟩,a.cellAt 16 rfl 0,use (aID a) ?_⟩)⟩),?_⟩⟩
  ·rintro _ z ⟨rfl,d⟩;have d:Sep E (Vm A v r S ps (bE c (c3 o v sp cE.zero b)::bC b 1 (bD [])::L)) z:=d;refine⟨_,rfl,o.d,Vm.cell d 0 rfl 4,rfl,hk (λl=>⟨_,rfl,bad (.inr (.inl l)) d _ (λ_ q=>q)⟩) (λl=>⟨_,rfl,o.b,Vm.cell d 0 rfl 2,_,rfl,some ⟨v,0,none⟩,Vm.cell d 0 rfl 5,_,rfl,some ⟨A.c,0,none⟩,d.cellAt 16 rfl 0,_,rfl,o.d,Vm.cell d 0 rfl 4,use (aFx o.d d) ?_⟩)⟩;rintro _ H ⟨rfl,i⟩;have i:Sep E (Vm A v r S ps (bE c (c3 o v sp cE.zero b)::bC b 1 (bD [])::L)) H:=i;exact⟨_,rfl,o.b,Vm.cell i 0 rfl 2,rfl,eW (λm=>⟨_,rfl,bad (.inr (.inr m)) i _ (λ_ q=>q)⟩) (λm=>⟨bA,i⟩)⟩
  rintro _ z ⟨y,d⟩;rw[bJ y];refine Dr.i d (λw2 a=>⟨_,rfl,some ⟨sp,0,none⟩,Vm.cell a 0 rfl 6,_,rfl,o.c,Vm.cell a 0 rfl 3,_,rfl,o.c,Vm.cell a 0 rfl 3,_,rfl,o.b,Vm.cell a 0 rfl 2,_,rfl,o.d,Vm.cell a 0 rfl 4,?_⟩);rw[cH (n:=o.c+o.b) bA bA];exact SN (x:=⟨o.c,o.c+o.b,2,o.d,0,true⟩) t p D hp a (λ_ k=>k)
 ·rw[bJ e]at h1 ⊢;exact⟨_,rfl,bT (by rw[c4 e];rfl) ⟨rfl,.nil _ _,ps,b,t,rfl,rfl,p,h1⟩⟩
def aKL{c sp:Nat}{o:c7}{d:Sl}(k:dF ps)(D:Kc.Inv S)(t:d.n=0)(x:0<=o.a){g:Int}{s:Kw.Sp}(hp:ps[o.a.toNat]?=some (g,some (sp,s)))(h:Sep E (Vm A v r S ps (bE c (c3 o v sp cE.zero d)::bC d 1 (bD [])::L)) w):
  Calls P yw #[Pb c] w (bW (done E A v r c sp o L ps.length S (if kB o.b o.c then
   (let q:=s.cut o.c (o.c+o.b);let V1:=Vs.fl ⟨S,plain ps⟩ o.a (some q.1);({V1 with core:=j8 q.2 V1.core},⟨0,q.2.length,[]⟩))else(⟨S,plain ps⟩,.bad 1)))):=by
 have i:=k _ _ _ _ hp;apply Z9;unfold N5 qE qF qJ qL qZ;dsimp only;refine use (F4 h) ?_;rintro _ F ⟨rfl,h1⟩;by_cases e:kB o.b o.c
 ·rw[bM e]at h1 ⊢;obtain⟨⟨b0,b1⟩,l,m⟩:=e;refine⟨_,rfl,bT (dh ⟨⟨b0,b1⟩,l,m⟩) (Dr.i h1 (λw2 f=>⟨_,rfl,some ⟨sp,0,none⟩,Vm.cell f 0 rfl 6,_,rfl,o.c,Vm.cell f 0 rfl 3,_,rfl,o.c,Vm.cell f 0 rfl 3,_,rfl,o.b,Vm.cell f 0 rfl 2,?_⟩))⟩;rw[cH (n:=o.c+o.b) bA bA];refine use (Qe (a:=o.c) (b:=o.c+o.b) ⟨l,m⟩ bA i (Vm.op hp f)) ?_;rintro _ G ⟨q,rfl,u,y⟩;have p:=Vm.FX hp y;have hlen:=Ac i o.c (o.c+o.b);have C:∀S',Ints E (Vm A v r S' (ps.set o.a.toNat (g,some (sp,(s.cut o.c (o.c+o.b)).1))) (bC q 1 (bD (s.cut o.c (o.c+o.b)).2)::bE c (c3 o v sp cE.zero d)::bC d 1 (bD [])::L)) q (s.cut o.c (o.c+o.b)).2:=λS'=>Vm.ints u;refine⟨q,rfl,_,rfl,some ⟨v,0,none⟩,Vm.cell p 1 rfl 5,use (Sw C (by show(s.ids _ _).length<_;omega) D p) ?_⟩;rintro _ H ⟨rfl,z⟩;refine⟨rfl,_,rfl,Vm.r8 (j:=8) (out:=cE.zero) (out':=⟨0,((s.cut o.c (o.c+o.b)).2.length:Nat),[]⟩) bO (by rw[u];rfl) (Vm.out z).tail (λI B=>?_)⟩;try dsimp only
  rw[SM x rfl hp];exact⟨rfl,(wS _ _).up bA,_,d,k.set (i.cut _ _),by rw[dA],qs,t,B⟩
 ·rw[bJ e]at h1 ⊢;exact⟨_,rfl,bF (c4 e) ⟨rfl,.nil _ _,ps,d,k,rfl,rfl,t,h1⟩⟩
def aKy{c sp:Nat}{o:c7}{a:Sl}(f:dF ps)(l:r.n=ps.length)(m:Kc.Inv S)(k:a.n=0)(n:0<=o.a){g:Int}{s:Kw.Sp}(hp:ps[o.a.toNat]?=some (g,some (sp,s)))(h:Sep E (Vm A v r S ps (bE c (c3 o v sp cE.zero a)::bC a 1 (bD [])::L)) w):
  Calls P yt #[Pb c] w (bW (done E A v r c sp o L ps.length S (Vs.exit ⟨S,plain ps⟩ o.a,.zero))):=by
 have i:=f _ _ _ _ hp;apply Z6;unfold N2 qE qL qZ;refine Dr.i h (λp h1=>⟨_,rfl,some ⟨v,0,none⟩,Vm.cell h1 0 rfl 5,_,rfl,o.a,Vm.cell h1 0 rfl 1,?_⟩);have d:o.a=((o.a.toNat:Nat):Int):=by omega
 have b:Vs.space ⟨S,plain ps⟩ o.a=some s/\Vs.group ⟨S,plain ps⟩ o.a=g:=by
  have:=jS (V:=⟨S,plain ps⟩) (ig hp);rwa[<- d]at this
 rw[ux b.1,b.2];have e:=Sx hp i l m h1;rw[<- d]at e;refine use e ?_;rintro _ w2 ⟨rfl,j⟩;exact⟨rfl,rfl,(wS _ _).up bA,_,a,f.less (iB.die hp),by rw[dA],Sz,k,j⟩
def aIK{c sp:Nat}{o:c7}{a:Sl}(l:dF ps)(x:r.n=ps.length)(m:a.n=0)(z:0<=o.a){g:Int}{s:Kw.Sp}(hp:ps[o.a.toNat]?=some (g,some (sp,s)))(h:Sep E (Vm A v r S ps (bE c (c3 o v sp cE.zero a)::bC a 1 (bD [])::L)) w):
  Calls P ys #[Pb c] w (bW (done E A v r c sp o L ps.length S (if S.live o.b then(⟨S,(plain ps).set o.a.toNat (o.b,some s)⟩,.zero)else(⟨S,plain ps⟩,.bad 2)))):=by
 have y:=(cT.1 hp).1;apply Z5;unfold N1 qF qK qL qR qW qZ zH;refine Dr.i h (λB h1=>⟨_,rfl,some ⟨v,0,none⟩,Vm.cell h1 0 rfl 5,_,rfl,some ⟨A.c,0,none⟩,h1.cellAt 16 rfl 0,_,rfl,o.b,Vm.cell h1 0 rfl 2,use (wL h1) ?_⟩);rintro _ w2 ⟨rfl,f⟩;have f:Sep E (Vm A v r S ps (bE c (c3 o v sp cE.zero a)::bC a 1 (bD [])::L)) w2:=f;refine⟨_,rfl,o.b,Vm.cell f 0 rfl 2,rfl,use (ke f (q:=1) rfl) ?_⟩;rintro _ _ ⟨rfl,rfl⟩;have u:S.live o.b=dw S.tree o.b:=rfl;rw[u];refine⟨_,rfl,cw (λk=>⟨_,rfl,?_⟩) (λd=>Dr.i f (λC i=>⟨_,rfl,some ⟨v,0,none⟩,Vm.cell i 0 rfl 5,_,rfl,r,i.cellAt 16 rfl 1,_,rfl,o.a,Vm.cell i 0 rfl 1,_,rfl,o.b,Vm.cell i 0 rfl 2,Vm.el x i (show o.a=((o.a.toNat:Nat):Int) by omega) hp (λb t _=>?_)⟩))⟩
 ·have k:dw S.tree o.b=false:=by simpa using k
  rw[k,bJ bO];exact Vm.r8 (j:=7) (out:=cE.zero) (out':=cE.bad 2) bO rfl f (λw' h'=>⟨rfl,.nil _ _,ps,a,l,rfl,rfl,m,h'⟩)
 ·have d:dw S.tree o.b=true:=by simpa using d
  rw[d,bM rfl,cj];refine tT r7 (a':=(o.b,some (sp,s))) (i.fr 17 rfl) t hp bO rfl (λD n=>⟨rfl,.nil _ _,ps.set o.a.toNat (o.b,some (sp,s)),a,l.set (l _ _ _ _ hp),by rw[dA],qs,m,?_⟩);have p:=Sep.put (L:=Vm A v r S ps (bE c (c3 o v sp cE.zero a)::bC a 1 (bD [])::L)) (q:=17) (A':=bC r 2 (bQ gJ (ps.set o.a.toNat (o.b,some (sp,s))))) rfl n;have e:(ps.set o.a.toNat (o.b,some (sp,s))).map g2=ps.map g2:=by
   rw[hq];exact FV (by rw[ew,hp];rfl)
  unfold Vm;rw[e];exact p
def SO:g9 P V3=some (16,2,[Iv 0,.pointer none]):=by kernel_rfl
def SP{g:Int}{sp:Nat}{s:Kw.Sp}(o:r.n=ps.length)(z:ps.length<=64)(h:Sep E (Vm A v r S ps (dY sp s::L)) w):
  Calls P Cy #[Pb v,Iv g,Pb sp] w
   (bW λx w'=>x=.agg #[Iv 0,Iv (ps.length:Nat),.slice none 0 0]/\∃r':Sl,r'.n=(ps++[(g,some (sp,s))]).length/\Sep E (Vm A v r' S (ps++[(g,some (sp,s))]) L) w'):=by
 apply aCE;unfold Ob qK qU zI zW;refine Al.i h (λk B h1=>⟨_,rfl,r,h1.cellAt 17 rfl 1,Al.i h1 (λl w2 b=>?_)⟩);have b:Sep E (bE l [Iv g,Pb sp]::bE k [Iv 0,Iv 0,.slice none 0 0]::Vm A v r S ps (dY sp s::L)) w2:=b;have q:=Src.bE (n:=1) (c:=1) b (i:=0) rfl SO rfl (λu hu=>by simp only[ey,ra,ri]at hu;rcases hu with rfl|rfl<;>rfl);refine bC.append (b.fr 19 rfl) SO rfl q bA (by rw[o];omega) (λr' C p m=>⟨_,rfl,?_⟩);have e:bQ gJ ps++[Iv g,Pb sp]=bQ gJ (ps++[(g,some (sp,s))]):=by rw[mX,o4];rfl
 rw[e]at m;refine St.i (m.fr 19 rfl) (by show 1<2;decide) (λt j=>?_);have j:Sep E ([bE v [Pb A.c,.slice r'.p r'.n r'.c],bC r' 2 (bQ gJ (ps++[(g,some (sp,s))]))]++(([bE l [Iv g,Pb sp],bE k [Iv 0,Iv 0,.slice none 0 0]]++cd A S)++(ps.map g2++dY sp s::L))) t:=j;have a:=j.perm (kH _ _ _);have em:ps.map g2++dY sp s::L=(ps++[(g,some (sp,s))]).map g2++L:=by rw[jV,dc];rfl
 rw[em]at a;have a:Sep E (bE l [Iv g,Pb sp]::bE k [Iv 0,Iv 0,.slice none 0 0]::Vm A v r' S (ps++[(g,some (sp,s))]) L) t:=a;have f:r'.n=(ps++[(g,some (sp,s))]).length:=by rw[p,o,da];rfl
 refine⟨_,rfl,r',a.cellAt 18 rfl 1,eh _ a.swap rfl (λD d=>?_)⟩;refine⟨0,d.cell 0,(ps.length:Int),?_,⟨none,0,0⟩,d.cell 2,rfl,r',f,d.tail.tail⟩;have y:((r'.n:Nat):Int)-1=(ps.length:Int):=by rw[f,da];simp
 have:=d.cell 1;rw[y,cH bA bA]at this;exact this
def AI(E:Env)(A:At)(v c sp:Nat)(o:c7)(L:ch)(S:Cs)(q:Vs×cE)(x:Value)(w:World):Prop:=
 x=.tuple #[]/\cv 66 S q.1.core/\∃(r':Sl) (cF:PS) (a:Sl),dF cF/\r'.n=cF.length/\cF.length<=64/\plain cF=q.1.procs/\a.n=q.2.bI.length/\
  Sep E (Vm A v r' q.1.core cF (bE c (c3 o v sp q.2 a)::bC a 1 (bD q.2.bI)::L)) w
def done.toC{c sp n:Nat}{o:c7}{q:Vs×cE}{x:Value}(k:r.n=n)(j:n<=64)(h:done E A v r c sp o L n S q x w):AI E A v c sp o L S q x w:=by
 obtain⟨h1,d,cF,b,e,a,f,g,i⟩:=h;exact⟨h1,d,r,cF,b,e,by rw[a];exact k,by rw[a];exact j,f,g,i⟩
def aLJ{c sp:Nat}{o:c7}{d:Sl}(F:dF ps)(D:r.n=ps.length)(N:ps.length<=64)(af:Kc.Inv S)(ab:d.n=0)(ag:0<=o.a){g:Int}{s:Kw.Sp}(hp:ps[o.a.toNat]?=some (g,some (sp,s)))(h:Sep E (Vm A v r S ps (bE c (c3 o v sp cE.zero d)::bC d 1 (bD [])::L)) w):
  Calls P yz #[Pb c] w (bW (AI E A v c sp o L S (if 64<=(plain ps).length then(⟨S,plain ps⟩,.bad 3)else
  ({core:=nv (s.ids 0 65536) S,procs:=plain ps++[(g,some s)]},⟨0,((plain ps).length:Nat),[]⟩)))):=by
 have f:=F _ _ _ _ hp;rw[jT];apply ayu;unfold N8 qD qJ qK qL qO qQ qR qU qW qZ zx;refine⟨_,rfl,some ⟨v,0,none⟩,Vm.cell h 0 rfl 5,_,rfl,r,h.cellAt 16 rfl 1,hk (λO=>⟨_,rfl,?_⟩) (λQ=>⟨_,rfl,some ⟨sp,0,none⟩,Vm.cell h 0 rfl 6,use (aGY f (Vm.op hp h)) ?_⟩)⟩
 ·rw[eG];exact Vm.r8 (j:=7) (out:=cE.zero) (out':=cE.bad 3) bO rfl h (λw' h'=>⟨rfl,.nil _ _,r,ps,d,F,D,N,rfl,ab,h'⟩)
 rw[cM];rintro _ ah ⟨t,rfl,h1⟩;have W:=Vm.bk1 hp h1;refine⟨_,rfl,use (aKF f (Vm.out W)) ?_⟩;rintro _ w2 ⟨q,rfl,R,M⟩;have hlen:=Ac f 0 65536;obtain⟨ids,C⟩:∃ids,s.ids 0 65536=ids:=⟨_,rfl⟩
 rw[C]at R M hlen ⊢;have X:Sep E (Vm A v r S ps (bC q 1 (bD ids)::dY t s::bE c (c3 o v sp cE.zero d)::bC d 1 (bD [])::L)) w2:=Vm.hn [_,_] M;refine⟨q,rfl,λx w'=>∃(k:Nat) (S':Cs),x=k/\k<=ids.length/\Kc.Inv S'/\nv (ids.drop k) S'=nv ids S/\Sep E (Vm A v r S' ps (bC q 1 (bD ids)::dY t s::bE c (c3 o v sp cE.zero d)::bC d 1 (bD [])::L)) w',λx _=>(ids.length-x).toNat,⟨0,S,rfl,ec _,af,rfl,X⟩,?_⟩;rintro _ _ ai ⟨k,S',rfl,z,G,he,u⟩;refine cL (λQ=>?_) (λO=>?_)
 ·obtain⟨x,hx⟩:∃x,ids[k]?=some x:=⟨_,dL⟩
  have aa:ids.drop k=x::ids.drop (k+1):=by
   have z:=(cT.1 hx).1;rw[ln z];rw[dD z]at hx;rw[cQ hx]
  rw[aa]at he;refine(Vm.ints (L:=dY t s::bE c (c3 o v sp cE.zero d)::bC d 1 (bD [])::L) R).el u k rfl hx ⟨_,rfl,some ⟨v,0,none⟩,Vm.cell u 2 rfl 5,_,rfl,some ⟨A.c,0,none⟩,u.cellAt 16 rfl 0,use (AA (id:=x) (n:=1) G u) ?_⟩;rintro _ ad ⟨rfl,B⟩;exact⟨_,rfl,⟨k+1,_,c1,bA,G.bX x 1,he,B⟩,by rw[c1];dsimp only;omega⟩
 ·have:k=ids.length:=by omega
  subst this;rw[xy]at he;have he:S'=nv ids S:=he;subst he;have B:=(Vm.out u).tail;refine Dr.i B (λad l=>⟨_,rfl,some ⟨v,0,none⟩,Vm.cell l 1 rfl 5,_,rfl,some ⟨v,0,none⟩,Vm.cell l 1 rfl 5,_,rfl,r,l.cellAt 16 rfl 1,_,rfl,o.a,Vm.cell l 1 rfl 1,Vm.el D l (show o.a=((o.a.toNat:Nat):Int) by omega) hp (λb _ Z=>⟨g,by rw[cj];exact Z 0 _ rfl,use (SP (g:=g) D N l) ?_⟩)⟩);rintro _ ae ⟨rfl,r',T,Y⟩;have y:=Vm.fg [_] (Y:Sep E (Vm A v r' (nv ids S) _ ([bE c (c3 o v sp cE.zero d)]++(bC d 1 (bD [])::L))) ae);refine⟨_,_,⟨none,0,0⟩,rfl,_,rfl,?_⟩;refine St.i y (by show 7<10;decide) (λaj y=>St.i y (by show 8<10;decide) (λak y=>St.i y (by show 9<10;decide) (λU H=>?_)));have I:=Vm.hn [bE c (c3 o v sp ⟨0,(ps.length:Nat),[]⟩ ⟨none,0,0⟩)] H;have J:=(bC.none_ (m:=1) (Vm.fg [_,_] (I:Sep E (Vm A v r' (nv ids S) _ ([bE c (c3 o v sp ⟨0,(ps.length:Nat),[]⟩ ⟨none,0,0⟩),bC d 1 (bD [])]++L)) U)))
  have K:Sep E (Vm A v r' (nv ids S) (ps++[(g,some (t,s))]) (bE c (c3 o v sp ⟨0,(ps.length:Nat),[]⟩ ⟨none,0,0⟩)::bC ⟨none,0,0⟩ 1 (bD [])::L)) U:=Vm.hn [_,_] (J.ro 3 [1,0] rfl);refine⟨rfl,(Si _ _).up bA,r',ps++[(g,some (t,s))],⟨none,0,0⟩,?_,T,by rw[da,lP];omega,?_,rfl,K⟩
  ·intro i V a s' p;rcases gS i ps.length with e|e
   ·rw[eE e]at p;exact F i V a s' p
   ·rw[fo e]at p;have:i-ps.length=0:=by
     have:=(cT.1 p).1;simp at this;omega
    rw[this]at p;cases p;exact f
  ·unfold plain;rw[jV];rfl
def dO(o:c7):List Value:=[Iv o.kind,Iv o.a,Iv o.b,Iv o.c,Iv o.d]
def qt(E:Env)(A:At)(v:Nat)(L:ch)(S:Cs)(q:Vs×cE)(x:Value)(w:World):Prop:=
 x=.agg #[Iv q.2.err,Iv q.2.n,.slice none 0 0]/\q.2.bI= []/\cv 66 S q.1.core/\∃(gs us r':Sl) (cF:PS),dF cF/\r'.n=cF.length/\cF.length<=64/\plain cF=q.1.procs/\Sep E (Vm {A with gs:=gs,us:=us} v r' q.1.core cF L) w
def Vm.same(h:Sep E (Vm A v r S ps L) w):Sep E (Vm {A with gs:=A.gs,us:=A.us} v r S ps L) w:=h
def jI{l b:Nat}{o:c7}{V':Vs}{out:cE}{gs us r':Sl}{cF:PS}{F:bh7}(he:out.bI= [])(i:cv 66 S V'.core)(j:dF cF)(g:r'.n=cF.length)(f:cF.length<=64)(hp:plain cF=V'.procs)(h:Sep E (bE b [Iv 0,Iv 0,.slice none 0 0]::bE l (dO o)::Vm {A with gs:=gs,us:=us} v r' V'.core cF L) w)(k:∀x w',qt E A v L S (V',out) x w'->F x w'):
  jt [Iv out.err,Iv out.n,.slice none 0 0] ⟨b,0,none⟩ (λa=>∃c:Int,a.cell? ((⟨b,0,none⟩:Addr).add 0)=some (Iv c)/\∃d:Int,a.cell? ((⟨b,0,none⟩:Addr).add 1)=some (Iv d)/\∃e:Sl,a.cell? ((⟨b,0,none⟩:Addr).add 2)=some (Sv e)/\F (.agg #[Iv c,Iv d,Sv e]) a) w:=
 eh _ h rfl (λm h1=>⟨_,h1.cell 0,_,h1.cell 1,⟨none,0,0⟩,h1.cell 2,k _ _ ⟨rfl,he,i,gs,us,r',cF,j,g,f,hp,h1.tail.tail⟩⟩)
def aIS{o:c7}(k:dF ps)(j:r.n=ps.length)(g:ps.length<=64)(m:Kc.Inv S)(h:Sep E (Vm A v r S ps L) w):
  Calls P ym #[Pb v,.agg (dO o).toArray] w (bW (qt E A v L S (let q:=S.bZ o.a;(⟨q.1,plain ps⟩,⟨q.2.2,max q.2.1 0,[]⟩)))):=by
 apply ZZ;unfold NV qL qU qZ qj zI zW;dsimp only;refine Al.i h (λb n h1=>Al.i h1 (λc w2 d=>Dr.i d (λl a=>?_)));have a:Sep E (bE c [Iv 0,Iv 0,.slice none 0 0]::bE b (dO o)::Vm A v r S ps L) l:=a;refine⟨_,rfl,some ⟨A.c,0,none⟩,a.cellAt 18 rfl 0,o.a,a.cellAt 1 rfl 1,use (aFu (p:=o.a) m (Vm.hn [_,_] a)) ?_⟩;rintro _ s ⟨rfl,gs,us,e⟩;have f:=Vm.fg (A:={A with gs:=gs,us:=us}) [bE c [Iv 0,Iv 0,.slice none 0 0],bE b (dO o)] e;have em:dy (S.bZ o.a).2.1 0=max (S.bZ o.a).2.1 0:=by unfold dy;split<;>omega
 refine⟨_,_,rfl,?_⟩;rw[em];exact jI (V':=⟨(S.bZ o.a).1,plain ps⟩) (out:=⟨(S.bZ o.a).2.2,max (S.bZ o.a).2.1 0,[]⟩) rfl ((cv.bZ o.a).up bA) k j g rfl f (λ_ _ i=>i)
def aIT{o:c7}(l:dF ps)(k:r.n=ps.length)(i:ps.length<=64)(p:Kc.Inv S)(h:Sep E (Vm A v r S ps L) w):
  Calls P yo #[Pb v,.agg (dO o).toArray] w (bW (qt E A v L S (let q:=S.cf o.a o.b o.c;(⟨q.1,plain ps⟩,.bad q.2)))):=by
 apply Z1;unfold NX qL qQ qU qZ zI zW;refine Al.i h (λb s h1=>Al.i h1 (λc w2 d=>Dr.i d (λm a=>?_)));have a:Sep E (bE c [Iv 0,Iv 0,.slice none 0 0]::bE b (dO o)::Vm A v r S ps L) m:=a;refine⟨_,rfl,some ⟨A.c,0,none⟩,a.cellAt 18 rfl 0,o.a,a.cellAt 1 rfl 1,o.b,a.cellAt 1 rfl 2,o.c,a.cellAt 1 rfl 3,use (aIE (g:=o.a) (c5:=o.b) (n:=o.c) p (Vm.hn [_,_] a)) ?_⟩;rintro _ t ⟨rfl,e⟩;have f:=Vm.fg [bE c [Iv 0,Iv 0,.slice none 0 0],bE b (dO o)] e;exact⟨_,rfl,jI (V':=⟨(S.cf o.a o.b o.c).1,plain ps⟩) (out:=.bad (S.cf o.a o.b o.c).2) (gs:=A.gs) (us:=A.us) rfl ((cv.cf o.a o.b o.c).up bA) l k i rfl f (λ_ _ j=>j)⟩
def aLT{o:c7}(k:dF ps)(j:r.n=ps.length)(g:ps.length<=64)(m:Kc.Inv S)(h:Sep E (Vm A v r S ps L) w):
  Calls P yq #[Pb v,.agg (dO o).toArray] w (bW (qt E A v L S (let q:=S.du o.a;(⟨q.1,plain ps⟩,⟨0,q.2,[]⟩)))):=by
 apply Z3;unfold NZ qL qQ qU qZ zI zW;refine Al.i h (λb n h1=>Al.i h1 (λc w2 d=>Dr.i d (λl a=>?_)));have a:Sep E (bE c [Iv 0,Iv 0,.slice none 0 0]::bE b (dO o)::Vm A v r S ps L) l:=a;refine⟨_,rfl,some ⟨A.c,0,none⟩,a.cellAt 18 rfl 0,o.a,a.cellAt 1 rfl 1,use (aLy (t:=o.a) m (Vm.hn [_,_] a)) ?_⟩;rintro _ p ⟨rfl,e⟩;have f:=Vm.fg [bE c [Iv 0,Iv 0,.slice none 0 0],bE b (dO o)] e;exact⟨_,rfl,jI (V':=⟨(S.du o.a).1,plain ps⟩) (out:=⟨0,(S.du o.a).2,[]⟩) (gs:=A.gs) (us:=A.us) rfl ((cv.du o.a).up bA) k j g rfl f (λ_ _ i=>i)⟩
def aG3{o:c7}(k:dF ps)(j:r.n=ps.length)(g:ps.length<=64)(m:Kc.Inv S)(h:Sep E (Vm A v r S ps L) w):
  Calls P yr #[Pb v,.agg (dO o).toArray] w (bW (qt E A v L S (let q:=S.shrink o.a o.b;(⟨q.1,plain ps⟩,⟨0,q.2,[]⟩)))):=by
 apply Z4;unfold N0 qL qQ qU qZ zI zW;refine Al.i h (λb p h1=>Al.i h1 (λc w2 d=>Dr.i d (λl a=>?_)));have a:Sep E (bE c [Iv 0,Iv 0,.slice none 0 0]::bE b (dO o)::Vm A v r S ps L) l:=a;refine⟨_,rfl,some ⟨A.c,0,none⟩,a.cellAt 18 rfl 0,o.a,a.cellAt 1 rfl 1,o.b,a.cellAt 1 rfl 2,use (aIH (t:=o.a) (n:=o.b) m (Vm.hn [_,_] a)) ?_⟩;rintro _ s ⟨rfl,e⟩;have f:=Vm.fg [bE c [Iv 0,Iv 0,.slice none 0 0],bE b (dO o)] e;exact⟨_,rfl,jI (V':=⟨(S.shrink o.a o.b).1,plain ps⟩) (out:=⟨0,(S.shrink o.a o.b).2,[]⟩) (gs:=A.gs) (us:=A.us) rfl ((cv.shrink o.a o.b).up bA) k j g rfl f (λ_ _ i=>i)⟩
def aIU{o:c7}(s:dF ps)(p:r.n=ps.length)(n:ps.length<=64)(h:Sep E (Vm A v r S ps L) w):
  Calls P yp #[Pb v,.agg (dO o).toArray] w (bW (qt E A v L S (if S.live o.a=false then(⟨S,plain ps⟩,.bad 2)else if 64<=(plain ps).length then(⟨S,plain ps⟩,.bad 3)else
  (⟨S,plain ps++[(o.a,some Sp.new)]⟩,⟨0,((plain ps).length:Nat),[]⟩)))):=by
 have G:S.live o.a=dw S.tree o.a:=rfl;rw[jT,G];apply Z2;unfold NY qF qK qL qR qU qZ zH zI zW zx;refine Al.i h (λl N h1=>Al.i h1 (λm w2 B=>Dr.i B (λH f=>?_)));have f:Sep E (bE m [Iv 0,Iv 0,.slice none 0 0]::bE l (dO o)::Vm A v r S ps L) H:=f;refine⟨_,rfl,some ⟨A.c,0,none⟩,f.cellAt 18 rfl 0,o.a,f.cellAt 1 rfl 1,use (wL (Vm.hn [_,_] f)) ?_⟩;rintro _ I ⟨rfl,C⟩;have c:=Vm.fg [bE m [Iv 0,Iv 0,.slice none 0 0],bE l (dO o)] C;have c:Sep E (bE m [Iv 0,Iv 0,.slice none 0 0]::bE l (dO o)::Vm A v r S ps L) I:=c;refine⟨_,rfl,o.a,c.cellAt 1 rfl 1,rfl,use (ke c (q:=3) rfl) ?_⟩;rintro _ _ ⟨rfl,rfl⟩;refine⟨_,rfl,cw (λk=>?_) (λb=>⟨_,rfl,r,c.cellAt 18 rfl 1,hk (λK=>?_) (λM=>Dr.i c (λO u=>⟨o.a,u.cellAt 1 rfl 1,use (aKH u) ?_⟩))⟩)⟩
 ·have k:dw S.tree o.a=false:=by simpa using k
  rw[bM k];exact jI (V':=⟨S,plain ps⟩) (out:=.bad 2) (gs:=A.gs) (us:=A.us) rfl (.nil _ _) s p n rfl c (λ_ _ j=>j)
 ·have b:dw S.tree o.a=true:=by simpa using b
  rw[bJ (by rw[b];decide),eG];exact jI (V':=⟨S,plain ps⟩) (out:=.bad 3) (gs:=A.gs) (us:=A.us) rfl (.nil _ _) s p n rfl c (λ_ _ j=>j)
 ·have b:dw S.tree o.a=true:=by simpa using b
  rw[bJ (by rw[b];decide),cM];rintro _ J ⟨sp,rfl,x⟩;have D:Sep E (Vm A v r S ps (dY sp Sp.new::([bE m [Iv 0,Iv 0,.slice none 0 0],bE l (dO o)]++L))) J:=Vm.hn [_,_,_] x;refine⟨_,rfl,o.a,x.cellAt 2 rfl 1,rfl,use (SP (g:=o.a) p n D) ?_⟩;rintro _ Q ⟨rfl,r',y,F⟩;have t:=Vm.fg [bE m [Iv 0,Iv 0,.slice none 0 0],bE l (dO o)] F;refine⟨_,_,⟨none,0,0⟩,rfl,jI (V':=⟨S,plain ps++[(o.a,some Sp.new)]⟩) (out:=⟨0,(ps.length:Nat),[]⟩) (gs:=A.gs) (us:=A.us) (cF:=ps++[(o.a,some (sp,Sp.new))]) rfl (.nil _ _) ?_ y (by rw[da,lP];omega) ?_ t (λ_ _ j=>j)⟩
  ·intro i z a s' d;rcases gS i ps.length with e|e
   ·rw[eE e]at d;exact s i z a s' d
   ·rw[fo e]at d;have:i-ps.length=0:=by
     have:=(cT.1 d).1;simp at this;omega
    rw[this]at d;cases d;exact gh.new
  ·unfold plain;rw[jV];rfl
def aKj(g:Int):Vs.busy ⟨S,plain ps⟩ g=((g !=0&&S.live g)&&(plain ps).any λp=>p.2.isSome&&p.1==g):=rfl
def aG2{o:c7}(K:dF ps)(G:r.n=ps.length)(u:ps.length<=64)(X:Kc.Inv S)(h:Sep E (Vm A v r S ps L) w):
  Calls P yn #[Pb v,.agg (dO o).toArray] w (bW (qt E A v L S (if Vs.busy ⟨S,plain ps⟩ o.a then(⟨S,plain ps⟩,.bad 4)else(let q:=S.remove o.a;(⟨q.1,plain ps⟩,.bad q.2))))):=by
 rw[aKj];apply Z0;unfold NW qF qK qL qO qQ qR qU qW qZ qh zH zI zW zq;dsimp only;refine Al.i h (λi Z h1=>Al.i h1 (λj w2 D=>?_));have D:Sep E (bE j [Iv 0,Iv 0,.slice none 0 0]::bE i (dO o)::Vm A v r S ps L) w2:=D;have R:S.live o.a=dw S.tree o.a:=rfl;refine⟨λb w'=>b=(o.a !=0&&S.live o.a)/\Sep E (bE j [Iv 0,Iv 0,.slice none 0 0]::bE i (dO o)::Vm A v r S ps L) w',Dr.i D (λT d=>⟨o.a,d.cellAt 1 rfl 1,cw (λe=>⟨_,rfl,some ⟨A.c,0,none⟩,d.cellAt 18 rfl 0,o.a,d.cellAt 1 rfl 1,use (wL (Vm.hn [_,_] d)) ?_⟩) (λe=>⟨by rw[e];rfl,d⟩)⟩),?_⟩
 ·rintro _ M ⟨rfl,n⟩;have a:=Vm.fg [bE j [Iv 0,Iv 0,.slice none 0 0],bE i (dO o)] n;have a:Sep E (bE j [Iv 0,Iv 0,.slice none 0 0]::bE i (dO o)::Vm A v r S ps L) M:=a;refine⟨_,rfl,o.a,a.cellAt 1 rfl 1,rfl,use (ke a (q:=3) rfl) ?_⟩;rintro _ _ ⟨rfl,rfl⟩;exact⟨_,rfl,by rw[e,R];rfl,a⟩
 rintro _ _ T ⟨rfl,d⟩;generalize (o.a !=0&&S.live o.a)=l;refine⟨_,rfl,r,d.cellAt 18 rfl 1,λx w'=>∃k:Nat,x=k/\k<=ps.length/\(l&&((plain ps).take k).any λp=>p.2.isSome&&p.1==o.a)=false/\Sep E (bE j [Iv 0,Iv 0,.slice none 0 0]::bE i (dO o)::Vm A v r S ps L) w',λx _=>(ps.length-x).toNat,⟨0,rfl,ec _,by simp,d⟩,?_⟩;rintro _ _ M ⟨k,rfl,Y,m,n⟩;refine cL (λW=>?_) (λV=>?_)
 ·obtain⟨p,hp⟩:∃p,ps[k]?=some p:=⟨_,dL⟩
  obtain⟨g,f⟩:=p;have C:=ig hp;have B:∀b:Bool,(l&&((f.map Prod.snd).isSome&&g==o.a))=b->(l&&((plain ps).take (k+1)).any λp=>p.2.isSome&&p.1==o.a)=b:=by
   intro b u;rw[fw C,He,Bool.and_or_distrib_left,m,uU];show(l&&(((f.map Prod.snd).isSome&&g==o.a)||false))=b;rw[pG];exact u
  have z:((ps.length:Int)-((k+1:Nat):Int)).toNat<((ps.length:Int)-(k:Int)).toNat:=by omega
  have J:=Vm.hn [_,_] n;refine Vm.el G J rfl hp (λb _ I=>⟨g,by rw[cj];exact I 0 _ rfl,f.map (λq=>(⟨q.1,0,none⟩:Addr)),by rw[cj];exact I 1 _ rfl,Al.i n (λpp U a=>eh _ a rfl (λH c=>?_))⟩);have c:Sep E (bE pp (gJ (g,f))::bE j [Iv 0,Iv 0,.slice none 0 0]::bE i (dO o)::Vm A v r S ps L) H:=c;have next:(l&&((f.map Prod.snd).isSome&&g==o.a))=false->(∃k':Nat,i64.wrap ((k:Int)+1)=k'/\k'<=ps.length/\(l&&((plain ps).take k').any λp=>p.2.isSome&&p.1==o.a)=false/\Sep E (bE j [Iv 0,Iv 0,.slice none 0 0]::bE i (dO o)::Vm A v r S ps L) H)/\((ps.length:Int)-i64.wrap ((k:Int)+1)).toNat<((ps.length:Int)-(k:Int)).toNat:=
   λQ=>⟨⟨k+1,c1,bA,B _ Q,c.tail⟩,by rw[c1];exact z⟩
  have N:(!(f.map λq=>(⟨q.1,0,none⟩:Addr)).isNone)=(f.map Prod.snd).isSome:=by cases f<;>rfl
  refine cw (λs=>⟨_,c.cell 1,?_⟩) (λs=>next (by rw[s];rfl));rw[N];refine cw (λt=>⟨g,c.cell 0,o.a,c.cellAt 2 rfl 1,cw (λheq=>?_) (λe=>next (by rw[e];simp))⟩) (λt=>next (by rw[t];simp));have y:(l&&(plain ps).any λp=>p.2.isSome&&p.1==o.a)=true:=by
   rw[s,lr];exact sK.2 ⟨_,eu C,by rw[dG];exact⟨t,heq⟩⟩
  rw[bM y];exact jI (V':=⟨S,plain ps⟩) (out:=.bad 4) (gs:=A.gs) (us:=A.us) rfl (.nil _ _) K G u rfl c.tail (λ_ _ F=>F)
 ·have:k=ps.length:=by omega
  subst this;rw[hE (by rw[jT];exact dN _)]at m;rw[bJ (by rw[m];decide)];refine Dr.i n (λU a=>⟨_,rfl,some ⟨A.c,0,none⟩,a.cellAt 18 rfl 0,o.a,a.cellAt 1 rfl 1,use (aGH (g:=o.a) X (Vm.hn [_,_] a)) ?_⟩);rintro _ H ⟨rfl,c⟩;have O:=Vm.fg [bE j [Iv 0,Iv 0,.slice none 0 0],bE i (dO o)] c;exact⟨_,rfl,jI (V':=⟨(S.remove o.a).1,plain ps⟩) (out:=.bad (S.remove o.a).2) (gs:=A.gs) (us:=A.us) rfl ((cv.remove o.a).up bA) K G u rfl O (λ_ _ F=>F)⟩
end Go.Mp
namespace Go.Sp
open Go Go.Vc
variable{P:Program}
def F5(P:Program)(t:TypeId):Bool:=match P.underlying t with
 |some (.func _ _ _)=>true
 |_=>false
def AJ{t:TypeId}(e:F5 P t=true)(g:FuncId)(w:World):(Op.equal t (.func (.func g) #[] #[]) .nilFunc).run P w=.ok false w/\(Op.equal t .nilFunc .nilFunc).run P w=.ok true w:=by
 unfold F5 at e;split at e
 ·next a b c hu=>
  have h1:∀d,(Op.equalIn (d+1) t (.func (.func g) #[] #[]) .nilFunc).run P w=.ok false w:=λd=>by simp[Op.equalIn,run_underlying hu]
  have f:∀d,(Op.equalIn (d+1) t .nilFunc .nilFunc).run P w=.ok true w:=λd=>by simp[Op.equalIn,run_underlying hu]
  exact⟨sS (h1 9999),sS (f 9999)⟩
 ·cases e
def jY.fn{t:TypeId}(a:F5 P t=true)(o:Option FuncId):jY P .neq t ((o.map λg=>Value.func (.func g) #[] #[]).getD .nilFunc) .nilFunc o.isSome/\jY P .eql t ((o.map λg=>Value.func (.func g) #[] #[]).getD .nilFunc) .nilFunc (!o.isSome):=by
 cases o with
 |none=>
  refine⟨⟨λb c w=>?_,λw=>?_⟩,⟨λb c w=>?_,λw=>?_⟩⟩;·simp[eqGuard]
  ·have:=(AJ a 0 w).2;simp[binOp,this]
  ·simp[eqGuard]
  ·have:=(AJ a 0 w).2;simp[binOp,this]
 |some g=>
  refine⟨⟨λb c w=>?_,λw=>?_⟩,⟨λb c w=>?_,λw=>?_⟩⟩;·simp[eqGuard]
  ·have:=(AJ a g w).1;simp[binOp,this]
  ·simp[eqGuard]
  ·have:=(AJ a g w).1;simp[binOp,this]
end Go.Sp
namespace Go.Mp
open Go Go.Vc Go.Sp Go.Proofs Go.Kc Go.Kw Go.Kt
variable{E:Env}{L:ch}{w W:World}
def qu(k:Int):Option FuncId:=if k=0 then some ym else if k=1 then some yn else if k=2 then some yo else if k=3 then some yp else if k=12 then some yq else if k=13 then some yr else none
def qv(k:Int):Option FuncId:=if k=4 then some ys else if k=5 then some yu else if k=6 then some yv else if k=7 then some yw else if k=8 then some yx else if k=9 then some yy else if k=10 then some yz else if k=11 then some yt else none
def r9(f:Int->Option FuncId)(k:Int):Option Value:=(f k).map λg=>.func (.func g) #[] #[]
def g3:hM P tv (Value.int .i64):=hM.int cr
def aFE(h:Sep E L w):Calls P IZ #[] w (bW λx w'=>∃m:Nat,x=.map (some m)/\Sep E (cB m (Value.int .i64) (r9 qu)::L) w'):=by
 apply ZV;refine cB.new (κ:=Int) (enc:=Value.int .i64) h (λm o h1=>?_);refine mapUpdate.i h1 g3 (z:=.nilFunc) cr 0 _ (λw2 f=>?_);refine mapUpdate.i f g3 (z:=.nilFunc) cr 1 _ (λp g=>?_);refine mapUpdate.i g g3 (z:=.nilFunc) cr 2 _ (λq i=>?_);refine mapUpdate.i i g3 (z:=.nilFunc) cr 3 _ (λr j=>?_);refine mapUpdate.i j g3 (z:=.nilFunc) cr 12 _ (λs l=>?_);refine mapUpdate.i l g3 (z:=.nilFunc) cr 13 _ (λt n=>⟨m,rfl,?_⟩);have e:r9 qu=cK (cK (cK (cK (cK (cK (λ_=>none) 0 (some (.func (.func ym) #[] #[]))) 1 (some (.func (.func yn) #[] #[]))) 2 (some (.func (.func yo) #[] #[]))) 3 (some (.func (.func yp) #[] #[]))) 12 (some (.func (.func yq) #[] #[]))) 13 (some (.func (.func yr) #[] #[])):=by
  funext k;unfold r9 qu cK;by_cases a0:k=0;·subst a0;rfl
  by_cases c:k=1;·subst c;rfl
  by_cases d:k=2;·subst d;rfl
  by_cases a3:k=3;·subst a3;rfl
  by_cases a:k=12;·subst a;rfl
  by_cases b:k=13;·subst b;rfl
  simp only[bJ a0,bJ c,bJ d,bJ a3,bJ a,bJ b];rfl
 rw[e];exact n
def aKv(h:Sep E L w):Calls P I0 #[] w (bW λx w'=>∃m:Nat,x=.map (some m)/\Sep E (cB m (Value.int .i64) (r9 qv)::L) w'):=by
 apply ZW;refine cB.new (κ:=Int) (enc:=Value.int .i64) h (λm q h1=>?_);refine mapUpdate.i h1 g3 (z:=.nilFunc) cr 4 _ (λw2 f=>?_);refine mapUpdate.i f g3 (z:=.nilFunc) cr 11 _ (λr g=>?_);refine mapUpdate.i g g3 (z:=.nilFunc) cr 5 _ (λs i=>?_);refine mapUpdate.i i g3 (z:=.nilFunc) cr 6 _ (λt j=>?_);refine mapUpdate.i j g3 (z:=.nilFunc) cr 7 _ (λu l=>?_);refine mapUpdate.i l g3 (z:=.nilFunc) cr 8 _ (λv n=>?_);refine mapUpdate.i n g3 (z:=.nilFunc) cr 9 _ (λy o=>?_);refine mapUpdate.i o g3 (z:=.nilFunc) cr 10 _ (λA p=>⟨m,rfl,?_⟩);have e:r9 qv=cK (cK (cK (cK (cK (cK (cK (cK (λ_=>none) 4 (some (.func (.func ys) #[] #[]))) 11 (some (.func (.func yt) #[] #[]))) 5 (some (.func (.func yu) #[] #[]))) 6 (some (.func (.func yv) #[] #[]))) 7 (some (.func (.func yw) #[] #[]))) 8 (some (.func (.func yx) #[] #[]))) 9 (some (.func (.func yy) #[] #[]))) 10 (some (.func (.func yz) #[] #[])):=by
  funext k;unfold r9 qv cK;by_cases a0:k=4;·subst a0;rfl
  by_cases a:k=5;·subst a;rfl
  by_cases b:k=6;·subst b;rfl
  by_cases a3:k=7;·subst a3;rfl
  by_cases a4:k=8;·subst a4;rfl
  by_cases a5:k=9;·subst a5;rfl
  by_cases c:k=10;·subst c;rfl
  by_cases d:k=11;·subst d;rfl
  simp only[bJ a0,bJ a,bJ b,bJ a3,bJ a4,bJ a5,bJ c,bJ d];rfl
 rw[e];exact p
end Go.Mp
namespace Go.Kw
open Go Go.Kc Go.Kt
def aIw{V:Vs}{o:c7}(h:(o.kind<0\/13<o.kind)/\True):V.act o=(V,.bad 1):=by
 have h:=h.1;unfold Vs.act;rw[cM,cM,cM,cM,cM,cM,bM h]
def AK{V:Vs}{o:c7}(h:4<=o.kind/\o.kind<=11):V.act o=match V.space o.a with
  |none=>(V,.bad 2)
  |some s=>V.call s o:=by
 unfold Vs.act;rw[cM,cM,cM,cM,cM,cM,cM];rfl
end Go.Kw
namespace Go.Mp
open Go Go.Vc Go.Sp Go.Proofs Go.Kc Go.Kw Go.Kt
variable{E:Env}{L:ch}{w W:World}{A:At}{S:Cs}{v:Nat}{r:Sl}{ps:PS}
def aKD{o:c7}{g:FuncId}(a:qu o.kind=some g)(d:dF ps)(c:r.n=ps.length)(b:ps.length<=64)(f:Kc.Inv S)(h:Sep E (Vm A v r S ps L) w):
  ky P g=true/\Calls P g #[Pb v,.agg (dO o).toArray] w (bW (qt E A v L S (Vs.act ⟨S,plain ps⟩ o))):=by
 unfold qu at a;unfold Vs.act;split at a;·next e=>cases a;rw[bM e];exact⟨by kernel_rfl,aIS d c b f h⟩
 next j=>
 rw[bJ j];split at a
 ·next e=>
  cases a;rw[bM e];exact⟨by kernel_rfl,aG2 d c b f h⟩
 next k=>
 rw[bJ k];split at a;·next e=>cases a;rw[bM e];exact⟨by kernel_rfl,aIT d c b f h⟩
 next l=>
 rw[bJ l];split at a;·next e=>cases a;rw[bM e];exact⟨by kernel_rfl,aIU d c b h⟩
 next m=>
 rw[bJ m];split at a;·next e=>cases a;rw[bM e];exact⟨by kernel_rfl,aLT d c b f h⟩
 next i=>
 rw[bJ i];split at a;·next e=>cases a;rw[bM e];exact⟨by kernel_rfl,aG3 d c b f h⟩
 ·cases a
def aKu{c sp:Nat}{o:c7}{k:FuncId}(a:qv o.kind=some k)(d:dF ps)(f:r.n=ps.length)(i:ps.length<=64)(l:Kc.Inv S)(j:S.bz.next+66<=16777216)(b:0<=o.a){g:Int}{s:Kw.Sp}(hp:ps[o.a.toNat]?=some (g,some (sp,s)))(h:Sep E (Vm A v r S ps (bE c (c3 o v sp cE.zero ⟨none,0,0⟩)::bC ⟨none,0,0⟩ 1 (bD [])::L)) w):
  ky P k=true/\Calls P k #[Pb c] w (bW (AI E A v c sp o L S (Vs.call ⟨S,plain ps⟩ s o))):=by
 have n:Vs.group ⟨S,plain ps⟩ o.a=g:=by
  have:=(jS (V:=⟨S,plain ps⟩) (ig hp)).2;rwa[show((o.a.toNat:Nat):Int)=o.a by omega]at this
 have up:∀ {q:Vs×cE} {F:FuncId},Calls P F #[Pb c] w (bW (done E A v r c sp o L ps.length S q))->Calls P F #[Pb c] w (bW (AI E A v c sp o L S q)):=by
  intro q F C;refine C.mono ?_;rintro e w' ⟨x,rfl,D⟩;exact⟨x,rfl,D.toC f i⟩
 unfold qv at a;unfold Vs.call;dsimp only;split at a;·next e=>cases a;rw[bM e];exact⟨by kernel_rfl,up (aIK d f rfl b hp h)⟩
 next p=>
 rw[bJ p];split at a;·next e=>cases a;rw[bM e];exact⟨by kernel_rfl,up (aIN d rfl b hp h)⟩
 next t=>
 rw[bJ t];split at a;·next e=>cases a;rw[bM e];exact⟨by kernel_rfl,up (aGS d rfl b hp h)⟩
 next u=>
 rw[bJ u];split at a;·next e=>cases a;rw[bM e];exact⟨by kernel_rfl,up (aKL d l rfl b hp h)⟩
 next y=>
 rw[bJ y];split at a;·next e=>cases a;rw[bM e];exact⟨by kernel_rfl,up (aLO d f i l j rfl b hp h)⟩
 next z=>
 rw[bJ z];split at a;·next e=>cases a;rw[bM e];exact⟨by kernel_rfl,up (aKJ d f i l j rfl b hp h)⟩
 next B=>
 rw[bJ B];split at a;·next e=>cases a;rw[bM e,n];exact⟨by kernel_rfl,aLJ d f i l rfl b hp h⟩
 next m=>
 rw[bJ m];split at a;·next e=>cases a;exact⟨by kernel_rfl,up (aKy d f l rfl b hp h)⟩
 ·cases a
def SQ(E:Env)(A:At)(v:Nat)(L:ch)(S:Cs)(q:Vs×cE)(x:Value)(w:World):Prop:=
 cv 66 S q.1.core/\∃(gs us r' a:Sl) (cF:PS),x=.agg #[Iv q.2.err,Iv q.2.n,Sv a]/\dF cF/\r'.n=cF.length/\cF.length<=64/\plain cF=q.1.procs/\a.n=q.2.bI.length/\
  Sep E (Vm {A with gs:=gs,us:=us} v r' q.1.core cF (bC a 1 (bD q.2.bI)::L)) w
def aI2{k:Int}:(∃g,qu k=some g)\/(qu k=none/\((∃g,qv k=some g/\4<=k/\k<=11)\/(qv k=none/\(k<0\/13<k)))):=by
 by_cases a:k<0\/13<k
 ·refine .inr ⟨?_,.inr ⟨?_,a⟩⟩;·unfold qu;rw[cM,cM,cM,cM,cM,cM]
  ·unfold qv;rw[cM,cM,cM,cM,cM,cM,cM,cM]
 ·have:k=0\/k=1\/k=2\/k=3\/k=4\/k=5\/k=6\/k=7\/k=8\/k=9\/k=10\/k=11\/k=12\/k=13:=by omega
  rcases this with rfl|rfl|rfl|rfl|rfl|rfl|rfl|rfl|rfl|rfl|rfl|rfl|rfl|rfl;all_goals first|exact .inl ⟨_,rfl⟩|exact .inr ⟨rfl,.inl ⟨_,rfl,bO,bO⟩⟩
def wW{m i:Nat}{f:Int->Option FuncId}{t:TypeId}(h:Sep E L w)(a:L[i]?=some (cB m (Value.int .i64) (r9 f)))(b:mQ P t=some (tv,.nilFunc))(k:Int):gk P t (.map (some m)) (Iv k) false w (((f k).map λg=>Value.func (.func g) #[] #[]).getD .nilFunc):=
 gk.i false i h a g3 b k
def SR(o:c7)(Y:dF ps)(M:r.n=ps.length)(X:ps.length<=64)(aA:Kc.Inv S)(am:S.bz.next+66<=16777216)(h:Sep E (Vm A v r S ps L) w):
  Calls P iz #[Pb v,.agg (dO o).toArray] w (bW (SQ E A v L S (Vs.act ⟨S,plain ps⟩ o))):=by
 obtain⟨Q,l⟩:∃Q,Vs.act ⟨S,plain ps⟩ o=Q:=⟨_,rfl⟩
 rw[l];apply ZQ;unfold NO qL qR qU zH zI zL zW zZ;refine Al.i h (λt av h1=>Al.i h1 (λf w2 ap=>Dr.i ap (λaw K=>?_)));have K:Sep E (bE f [Iv 0,Iv 0,.slice none 0 0]::bE t (dO o)::Vm A v r S ps L) aw:=K;refine⟨o.kind,K.cellAt 1 rfl 0,use (aFE K) ?_⟩;rintro _ ax ⟨m,rfl,n⟩;refine⟨_,rfl,o.kind,n.cellAt 2 rfl 0,rfl,_,wW n (i:=0) rfl cr o.kind,_,(jY.fn cr _).1,?_⟩;have ae:=n.tail;have j:∀ {w:World} (e:Int),Q=(⟨S,plain ps⟩,cE.bad e)->Sep E (bE f [Iv 0,Iv 0,.slice none 0 0]::bE t (dO o)::Vm A v r S ps L) w->
   jt [Iv e,Iv 0,.slice none 0 0] ⟨f,0,none⟩ (λz=>∃R:Int,z.cell? ((⟨f,0,none⟩:Addr).add 0)=some (Iv R)/\∃T:Int,z.cell? ((⟨f,0,none⟩:Addr).add 1)=some (Iv T)/\∃U:Sl,z.cell? ((⟨f,0,none⟩:Addr).add 2)=some (Sv U)/\SQ E A v L S Q (.agg #[Iv R,Iv T,Sv U]) z) w:=by
  intro w e au ar;refine eh _ ar rfl (λav h1=>⟨_,h1.cell 0,_,h1.cell 1,⟨none,0,0⟩,h1.cell 2,?_⟩);rw[au];exact⟨.nil _ _,A.gs,A.us,r,⟨none,0,0⟩,ps,rfl,Y,M,X,rfl,rfl,Vm.eA (bC.none_ (m:=1) h1.tail.tail)⟩
 rcases aI2 (k:=o.kind)with⟨g,B⟩|⟨hm,aq⟩
 ·rw[B];obtain⟨G,b⟩:=aKD (o:=o) B Y M X aA (Vm.hn [bE f [Iv 0,Iv 0,.slice none 0 0],bE t (dO o)] ae);rw[l]at b;refine bT rfl ⟨_,n.cellAt 2 rfl 0,_,n.cellAt 2 rfl 1,_,n.cellAt 2 rfl 2,_,n.cellAt 2 rfl 3,_,n.cellAt 2 rfl 4,_,_,rfl,G,?_⟩;have b:Calls P g (#[Pb v,.agg #[Iv o.kind,Iv o.a,Iv o.b,Iv o.c,Iv o.d]]++ #[]) ax _:=b;refine use b ?_;rintro _ ay ⟨rfl,ag,I,gs,us,r',cF,J,F,D,H,C⟩;have d:=Vm.fg [bE f [Iv 0,Iv 0,.slice none 0 0],bE t (dO o)] C;refine⟨_,_,⟨none,0,0⟩,rfl,eh _ d rfl (λaz p=>⟨_,p.cell 0,_,p.cell 1,⟨none,0,0⟩,p.cell 2,I,gs,us,r',⟨none,0,0⟩,cF,rfl,J,F,D,H,by rw[ag];rfl,?_⟩)⟩;rw[ag];exact Vm.eA (bC.none_ (m:=1) p.tail.tail)
 rw[hm];refine bF rfl (Dr.i ae (λay C=>⟨o.kind,C.cellAt 1 rfl 0,o.a,C.cellAt 1 rfl 1,use (aKv C) ?_⟩));rintro _ az ⟨aC,rfl,d⟩;refine⟨_,rfl,o.a,d.cellAt 2 rfl 1,rfl,o.kind,d.cellAt 2 rfl 0,rfl,_,wW d (i:=0) rfl cr o.kind,use (AF (pid:=o.a) M (Vm.hn [_,_,_] d)) ?_⟩;rintro x _ ⟨O,rfl⟩;have p:=d.tail;rcases aq with⟨ao,B,ah,ai⟩|⟨af,aj⟩
 ·rw[AK ⟨ah,ai⟩]at l;rcases O with⟨i,a,g,s,N,hp,rfl⟩|⟨al,rfl⟩
  ·have an:ps[o.a.toNat]?=some (g,some (a,s)):=by rw[N,dk];exact hp
   have Z:Vs.space ⟨S,plain ps⟩ o.a=some s:=by rw[N];exact(jS (V:=⟨S,plain ps⟩) (ig hp)).1
   rw[Z]at l;dsimp only at l;refine⟨_,rfl,_,wW d (i:=0) rfl cr o.kind,rfl,o.kind,d.cellAt 2 rfl 0,rfl,_,(jY.fn cr _).2,?_⟩;rw[B];refine bF rfl (bF rfl ⟨_,d.cellAt 2 rfl 0,_,d.cellAt 2 rfl 1,_,d.cellAt 2 rfl 2,_,d.cellAt 2 rfl 3,_,d.cellAt 2 rfl 4,Al.i p (λc aa W=>?_)⟩);have W:Sep E (bE c (c3 o v a cE.zero ⟨none,0,0⟩)::bE f [Iv 0,Iv 0,.slice none 0 0]::bE t (dO o)::Vm A v r S ps L) aa:=W;have ab:Sep E (Vm A v r S ps (bE c (c3 o v a cE.zero ⟨none,0,0⟩)::bC ⟨none,0,0⟩ 1 (bD [])::([bE f [Iv 0,Iv 0,.slice none 0 0],bE t (dO o)]++L))) aa:=Vm.hn [_,_,_,_] ((bC.none_ (m:=1) W).swap);obtain⟨G,b⟩:=aKu (c:=c) (sp:=a) (o:=o) (s:=s) B Y M X aA am bA an ab;rw[l]at b;refine⟨_,_,rfl,G,?_⟩;have b:Calls P ao (#[Pb c]++ #[]) aa _:=b;refine use b ?_;rintro _ aD ⟨rfl,I,r',cF,q,J,F,D,H,ak,ad⟩;have u:=Vm.fg [bE c (c3 o v a Q.2 q),bC q 1 (bD Q.2.bI),bE f [Iv 0,Iv 0,.slice none 0 0],bE t (dO o)] ad;refine⟨rfl,_,rfl,Q.2.err,u.cell 7,Q.2.n,u.cell 8,q,u.cell 9,eh _ (u.ro 4 [2,1,0,3] rfl) rfl (λaB y=>⟨_,y.cell 0,_,y.cell 1,q,y.cell 2,I,A.gs,A.us,r',q,cF,rfl,J,F,D,H,ak,?_⟩)⟩;exact Vm.eA (y.ro 4 [1] rfl)
  ·rw[al]at l;refine⟨_,rfl,_,wW d (i:=0) rfl cr o.kind,rfl,o.kind,d.cellAt 2 rfl 0,rfl,_,(jY.fn cr _).2,?_⟩;rw[B];exact bF rfl (bT rfl (j 2 l.symm p))
 ·rw[aIw ⟨aj,trivial⟩]at l;obtain⟨pp,rfl⟩:∃pp:cg,x=.pointer pp:=by
   rcases O with⟨_,_,_,_,_,_,e⟩|⟨_,e⟩<;>exact⟨_,e⟩
  refine⟨_,rfl,_,wW d (i:=0) rfl cr o.kind,rfl,o.kind,d.cellAt 2 rfl 0,rfl,_,(jY.fn cr _).2,?_⟩;rw[af];exact bT rfl (j 1 l.symm p)
end Go.Mp
namespace Go.Kw
open Go Go.Kc Go.Kt
def dv(V:Vs):List c7->Vs×List cE
 |[]=>(V,[])
 |o::l=>let r:=V.act o;let q:=dv r.1 l;(q.1,r.2::q.2)
def F6(o:c7):∀(l:List c7) (V:Vs),dv V (l++[o])=(((dv V l).1.act o).1,(dv V l).2++[((dv V l).1.act o).2])
 |[],V=>rfl
 |x::l,V=>by
  show((dv (V.act x).1 (l++[o])).1,(V.act x).2::(dv (V.act x).1 (l++[o])).2)=_;rw[F6 o l (V.act x).1];rfl
def sa:∀(l:List c7) (V:Vs),(dv V l).2.length=l.length
 |[],_=>rfl
 |x::l,V=>eO Nat.succ (sa l (V.act x).1)
end Go.Kw
namespace Go.Mp
open Go Go.Vc Go.Sp Go.Proofs Go.Kc Go.Kw Go.Kt
variable{E:Env}{L:ch}{w W:World}{A:At}{S:Cs}{v:Nat}{r:Sl}{ps:PS}{V:Vs}
def SS{fr sl:Int}{sz:Sl}{l:bU}{o:Array Obj}(f:Ints E (cy o::L) sz l)(a:sz.n<=sz.c)(h:Sep E (cy o::L) w):Calls P acl #[Iv fr,Iv sl,Sv sz] w
  (bW λx w'=>∃(A:At) (v:Nat),x=Pb v/\A.o=o/\Sep E (Vm A v ⟨none,0,0⟩ (Kc.new fr sl l) [] L) w'):=by
 apply ZO;unfold NL qR;refine use (wy f a h) ?_;rintro _ g ⟨A,rfl,ho,h1⟩;refine⟨_,rfl,Al.i h1 (λv w2 b=>⟨A,v,rfl,ho,?_⟩)⟩;have c:=(bC.none_ (m:=2) b)
 have d:Sep E ([bC ⟨none,0,0⟩ 2 [],bE v [Pb A.c,.slice none 0 0]]++(cd A (Kc.new fr sl l)++L)) w2:=c;have e:=d.perm (kH _ _ _);exact e.perm (mu _ (List.Perm.swap _ _ _))
def aKM(h:Sep E (Vm A v r S ps L) w):Calls P rO #[Pb v] w (bW λx w'=>x=Pb A.c/\w'=w):=by
 apply ZP;unfold NM qZ;exact⟨_,rfl,_,h.cellAt 16 rfl 0,rfl,rfl⟩
def kn(E:Env)(L:ch)(l:Sl)(os:List c7):Prop:=l.n=os.length/\∀w,Sep E L w->∀(i:Nat) o,os[i]?=some o->∃a,l.p=some a/\∀(j:Nat) u,(dO o)[j]?=some u->w.cell? ((a.add (i*5)).add j)=some u
def wX(p:cE×Sl):List Value:=[Iv p.1.err,Iv p.1.n,.slice p.2.p p.2.n p.2.c]
def F7(p:cE×Sl):(wX p).length=3:=rfl
def dQ(s:Sl)(l:List cE):Asn:=e8 λq:List (cE×Sl)=>cC (q.map Prod.fst=l/\s.n=l.length/\∀p∈q,p.2.n=p.1.bI.length) (cA (bC s 3 (bQ wX q)::q.map λp=>bC p.2 1 (bD p.1.bI)))
def SU:g9 P yg=some (40,3,[Iv 0,Iv 0,.slice none 0 0]):=by kernel_rfl
def dQ.push{s:Sl}{l:List cE}{a:cE}{b:Sl}{p:Nat}(z:b.n=a.bI.length)(B:l.length<=100000)(h:Sep E (bE p [Iv a.err,Iv a.n,Sv b]::bC b 1 (bD a.bI)::dQ s l::L) w){G:Sl->bh6}(g:∀s' d,Sep E (dQ s' (l++[a])::L) d->G s' d):
  ∃k:Sl,∃d,Sem.run P (Builtin.append_ #[yg,yg] yg #[Sv s,.slice (some ⟨p,0,none⟩) 1 1]) w=.ok (Sv k) d/\G k d:=by
 have A:=Src.bE (n:=1) (c:=1) h (i:=0) rfl SU rfl (λu hu=>by simp only[ey,ra,ri]at hu;rcases hu with rfl|rfl|rfl<;>rfl);obtain⟨q,h1⟩:=Sep.ex.1 (h.ro 3 [2,0,1] rfl);obtain⟨⟨m,o,r⟩,h1⟩:=Sep.cC.1 h1;have t:=Sep.cA.1 h1;refine bC.append t SU rfl A bA bA (λs' d j f=>g s' d ?_);have e:bQ wX q++[Iv a.err,Iv a.n,Sv b]=bQ wX (q++[(a,b)]):=by rw[mX,o4];rfl
 rw[e]at f;refine Sep.ex.2 ⟨q++[(a,b)],Sep.cC.2 ⟨⟨by rw[jV,m];rfl,by rw[j,o,da];rfl,λp hp=>?_⟩,Sep.cA.2 ?_⟩⟩
 ·rcases h6.1 hp with hp|hp;·exact r p hp
  ·rw[iD]at hp;subst hp;exact z
 ·have v:Sep E (bC s' 3 (bQ wX (q++[(a,b)]))::((q.map λp=>bC p.2 1 (bD p.1.bI))++(bE p [Iv a.err,Iv a.n,Sv b]::bC b 1 (bD a.bI)::L))) d:=f;have x:=v.perm (List.Perm.cons _ (il (a:=bE p [Iv a.err,Iv a.n,Sv b])));have y:=x.swap.tail;rw[jV];show Sep E (bC s' 3 _::(((q.map λp=>bC p.2 1 (bD p.1.bI))++[bC b 1 (bD a.bI)])++L)) d;rw[dc];exact y
def wY{fr sl:Int}{sz ol:Sl}{l:bU}{os:List c7}{o:Array Obj}(Y:Ints E (cy o::L) sz l)(F:sz.n<=sz.c)(M:kn E L ol os)(ah:os.length<=1000)(h:Sep E (cy o::L) w):
  Calls P tz #[Iv fr,Iv sl,Sv sz,Sv ol] w (bW λx w'=>∃s:Sl,x=Sv s/\Sep E (dQ s (dv (Vs.new fr sl l) os).2::cy o::L) w'):=by
 have aj:=M.1;have H:(⟨Kc.new fr sl l,plain []⟩:Vs)=Vs.new fr sl l:=rfl;have f:(Kc.new fr sl l).bz.next=0:=rfl;apply ZU;unfold NS qR qU qW qf zL zx;refine use (SS Y F h) ?_;rintro _ ak ⟨A,v,rfl,ho,h1⟩;refine⟨_,rfl,λs x w'=>∃(k:Nat) (gs us r:Sl) (S:Cs) (ps:PS),x=k/\k<=os.length/\dF ps/\r.n=ps.length/\ps.length<=64/\(⟨S,plain ps⟩:Vs)=(dv (Vs.new fr sl l) (os.take k)).1/\Kc.Inv S/\S.bz.next<=66*k/\Sep E (Vm {A with gs:=gs,us:=us} v r S ps (dQ s (dv (Vs.new fr sl l) (os.take k)).2::L)) w',λ_ x _=>(os.length-x).toNat,?_,?_⟩;·refine⟨0,A.gs,A.us,⟨none,0,0⟩,Kc.new fr sl l,[],rfl,ec _,(λi g a s G=>by cases G),rfl,bO,H,Inv.new fr sl l,by rw[f];decide,Vm.eA (Sep.ex.2 ⟨[],Sep.cC.2 ⟨⟨rfl,rfl,(λp hp=>by cases hp)⟩,Sep.cA.2 (bC.none_ (m:=3) h1)⟩⟩)⟩
 rintro _ s _ w2 ⟨k,gs,us,r,S,ps,rfl,ai,aa,Z,J,V,ad,ag,e⟩;refine cL (λaf=>?_) (λae=>?_)
 ·obtain⟨op,n⟩:∃op,os[k]?=some op:=⟨_,dL⟩
  obtain⟨a,hp,c⟩:=M.2 w2 (Vm.out e |>.tail |> λq=>by rw[AE]at q;exact q.right) k op n;have N:(((k:Nat):Int).toNat*5)=k*5:=by rw[dk]
  refine⟨a,hp,⟨bA,bA⟩,?_⟩;rw[N];refine⟨_,c 0 _ rfl,_,c 1 _ rfl,_,c 2 _ rfl,_,c 3 _ rfl,_,c 4 _ rfl,Al.i e (λp al u=>eh _ u rfl (λab b=>?_))⟩;have b:Sep E (bE p (dO op)::Vm {A with gs:=gs,us:=us} v r S ps (dQ s (dv (Vs.new fr sl l) (os.take k)).2::L)) ab:=b;refine⟨_,b.cell 0,_,b.cell 1,_,b.cell 2,_,b.cell 3,_,b.cell 4,use (SR op aa Z J ad bA b.tail) ?_⟩;rintro _ am ⟨T,j,t,r',X,cF,rfl,U,R,B,Q,O,y⟩;have I:Vs.act ⟨S,plain ps⟩ op=((dv (Vs.new fr sl l) (os.take k)).1).act op:=by rw[V]
  have d:=F6 op (os.take k) (Vs.new fr sl l);have W:os.take (k+1)=os.take k++[op]:=fw n;rw[<- W,<- I]at d;have G:=T.inv ad bA;have z:=Vm.fg (A:={A with gs:=j,us:=t}) [bC X 1 (bD (Vs.act ⟨S,plain ps⟩ op).2.bI),dQ s (dv (Vs.new fr sl l) (os.take k)).2] y;refine⟨_,_,X,rfl,Al.i z (λp2 an C=>dQ.push (a:=(Vs.act ⟨S,plain ps⟩ op).2) O (by rw[sa,g7];omega) C (λs' ao D=>⟨⟨k+1,j,t,r',_,cF,c1,bA,U,R,B,?_,G.1,bA,?_⟩,?_⟩))⟩;·rw[d,Q]
  ·rw[d];exact Vm.eA D
  ·rw[c1];dsimp only;omega
 ·have:k=os.length:=by omega
  subst this;rw[fN]at e;refine⟨s,rfl,?_⟩;have u:=Vm.out e;have b:Sep E (dQ s (dv (Vs.new fr sl l) os).2::(cd {A with gs:=gs,us:=us} S++(bE v [Pb A.c,Sv r]::bC r 2 (bQ gJ ps)::(ps.map g2++L)))) w2:=u;have y:=b.fr 16 rfl;have z:Sep E (cy A.o::dQ s (dv (Vs.new fr sl l) os).2::(((cd {A with gs:=gs,us:=us} S).take 15++[bE v [Pb A.c,Sv r],bC r 2 (bQ gJ ps)]++ps.map g2)++L)) w2:=by
   refine y.perm ?_;rw[dc,dc];exact Hi _
  have C:=(z.ro 2 [1,0] rfl:Sep E (dQ s (dv (Vs.new fr sl l) os).2::cy A.o::(_++L)) w2)
  have D:=C.perm (L':=((cd {A with gs:=gs,us:=us} S).take 15++[bE v [Pb A.c,Sv r],bC r 2 (bQ gJ ps)]++ps.map g2)++(dQ s (dv (Vs.new fr sl l) os).2::cy A.o::L)) (kH [_,_] _ L);have K:=D.right;rw[ho]at K;exact K
def wZ(o:c7):(dO o).length=5:=rfl
def kn.gY{b c q:Nat}{os:List c7}(d:L[q]?=some (bE b (bQ dO os))):kn E L ⟨some ⟨b,0,none⟩,os.length,c⟩ os:=by
 refine⟨rfl,λw h i o ho=>⟨_,rfl,λj u hu=>?_⟩⟩;have a:j<5:=by have:=(cT.1 hu).1;rwa[wZ]at this
 rw[cj,cj,h.cellAt q d,e5,tR wZ ho j a];exact hu
def dQ.el{s:Sl}{l:List cE}{i:Int}{k:Nat}{a:cE}{F:Addr->Prop}(q:Nat)(h:Sep E L w)(p:L[q]?=some (dQ s l))(n:i=k)(c:l[k]?=some a)(t:∀a0:Addr,w.cell? (a0.add 0)=some (Iv a.err)->w.cell? (a0.add 1)=some (Iv a.n)->F a0):cx s.p s.n i 3 F:=by
 obtain⟨z,h1⟩:=Sep.ex.1 (h.fr q p);obtain⟨⟨e,j,_⟩,h1⟩:=Sep.cC.1 h1;have m:=Sep.cA.1 h1;obtain⟨y,r,d⟩:∃y,z[k]?=some y/\y.1=a:=by
  rw[<- e,ew]at c;cases g:z[k]? with
  |none=>rw[g]at c;cases c
  |some y=>rw[g]at c;exact⟨y,rfl,cQ c⟩
 have o:s.n=z.length:=by rw[j,<- e,eb]
 refine kZ F7 0 m rfl o n r (λb _ f=>t _ ?_ ?_);·rw[cj,<- d];exact f 0 _ rfl
 ·rw[cj,<- d];exact f 1 _ rfl
def dQ.len{s:Sl}{l:List cE}(q:Nat)(h:Sep E L w)(a:L[q]?=some (dQ s l)):s.n=l.length:=by
 obtain⟨z,h1⟩:=Sep.ex.1 (h.fr q a);exact(Sep.cC.1 h1).1.2.1
def fU.new(a b:Int)(l:bU):fU (Vs.new a b l):=⟨Inv.new a b l,(λi g s h=>by cases h),by show(0:Nat)<=64;decide⟩
def St(E:Env)(A:At)(v:Nat)(V:Vs)(L:ch)(w:World):Prop:=
 ∃(gs us r:Sl) (ps:PS),r.n=ps.length/\plain ps=V.procs/\Sep E (Vm {A with gs:=gs,us:=us} v r V.core ps L) w
def AL{ps:PS}(m:fU V)(h:plain ps=V.procs):dF ps:=λi g a s b=>m.sp i g s (by rw[<- h];exact ig b)
def AM{ps:PS}(m:fU V)(h:plain ps=V.procs):ps.length<=64:=by rw[<- jT,h];exact m.fq
def St.tail{B:Asn}(h:St E A v V (B::L) w):St E A v V L w:=by
 obtain⟨gs,us,r,ps,h1,a,b⟩:=h;exact⟨gs,us,r,ps,h1,a,(Vm.out b).tail⟩
def St.iw{T:Cs}(h:Sep E (Vm A v ⟨none,0,0⟩ T [] L) w):St E A v ⟨T,[]⟩ L w:=⟨A.gs,A.us,⟨none,0,0⟩,[],rfl,rfl,h⟩
def St.right(h:St E A v V L w):Sep E L w:=by
 obtain⟨gs,us,r,ps,h1,b,a⟩:=h;rw[AE]at a;exact a.right
def St.drop(h:St E A v V L w):Sep E (cy A.o::L) w:=by
 obtain⟨gs,us,r,ps,h1,f,a⟩:=h;have b:Sep E (cd {A with gs:=gs,us:=us} V.core++(bE v [Pb A.c,Sv r]::bC r 2 (bQ gJ ps)::(ps.map g2++L))) w:=a;have c:=b.fr 15 rfl;have d:Sep E (cy A.o::(((cd {A with gs:=gs,us:=us} V.core).take 15++[bE v [Pb A.c,Sv r],bC r 2 (bQ gJ ps)]++ps.map g2)++L)) w:=by
  refine c.perm ?_;rw[dc,dc];exact Hi _
 have e:=d.perm (L':=((cd {A with gs:=gs,us:=us} V.core).take 15++[bE v [Pb A.c,Sv r],bC r 2 (bQ gJ ps)]++ps.map g2)++(cy A.o::L)) il.symm;exact e.right
def St.cell{k b j:Nat}{cs:List Value}{c:Value}(h:St E A v V L w)(d:L[k]?=some (bE b cs))(a:cs[j]?=some c):w.cell? (Addr.add ⟨b,0,none⟩ j)=some c:=by
 rw[cj,h.right.cellAt k d,e5];exact a
def St.qS(h:St E A v V L w)(m:fU V)(C:V.core.bz.next+66<16777216)(o:c7){K:Ending->bh6}(k:∀(c:Sl) w',c.n=(V.act o).2.bI.length->St E A v (V.act o).1 (bC c 1 (bD (V.act o).2.bI)::L) w'->fU (V.act o).1->(V.act o).1.core.bz.next<=V.core.bz.next+66->
   K (.returned (.agg #[Iv (V.act o).2.err,Iv (V.act o).2.n,Sv c])) w'):Calls P iz #[Pb v,.agg (dO o).toArray] w K:=by
 obtain⟨gs,us,r,ps,h1,d,y⟩:=h;have fq:=m.fq;have z:(⟨V.core,plain ps⟩:Vs)=V:=by cases V;dsimp only at d;rw[d]
 refine use (SR o (AL m d) h1 (AM m d) m.inv bA y) ?_;rintro _ w' ⟨q,f,x,r',c,cF,rfl,u,p,l,b,e,j⟩;have n:=q.inv m.inv bA;rw[z]at b e j n ⊢;exact k c w' e ⟨f,x,r',cF,p,b,j⟩ ⟨n.1,λi g s t=>by rw[<- b]at t;obtain⟨a,B⟩:=Sq t;exact u i g a s B,by rw[<- b,jT];exact l⟩ bA
def St.core(h:St E A v V L w){K:Ending->bh6}(k:K (.returned (Pb A.c)) w):Calls P rO #[Pb v] w K:=by
 obtain⟨gs,us,r,ps,h1,b,a⟩:=h;refine use (aKM a) ?_;rintro _ w' ⟨rfl,rfl⟩;exact k
end Go.Mp
namespace Go.Sp
open Go Go.Vc Go.RowKit Go.ChangeShapes
section
variable{H:Type}{enc:TypeId×Value->H}
def w1{C:Checked}{os:Os}{f:FuncId}{fn:Func}{s:ChangeSpec}{conds:List PathCond}{apart fresh handsOn:Bool}{tb:TypeId}{X:bh6}(G:∀(w w':World),w.heap=w'.heap->X w->X w')(own:ownKnob C.prog.godebug=none)(started:os.Started)(c:C.prog.inits.idxOf? f=none)(z:C.prog.funcs[f]?=some fn)(witness:∃(w:World) (tape:Tape) (i:Input),w.os=os/\(w.forCall tape i).Shaped C.prog/\i.vars= []/\Input.okWide C.prog (w.forCall tape i) .any w.heap.size f i/\
   ((s.pre enc C.prog fn conds apart (w.forCall tape i).memory i.args/\X (w.forCall tape i).memory)/\sizedMet enc C.prog fn (OpenSpec.ofChange s) apart (w.forCall tape i).memory i.args)/\Assume.holds {} C.prog (lone (Frame.enter C.prog f i.args .normal) [] (w.forCall tape i)))(J:laidOutB C.prog=true)(d:(fn.params.toList.all λt=>C.prog.readableRec t&&Nat.blt t C.prog.types.size)=true)(k:varsRowed C.prog s.vars=true)(n:fn.resultTypes.toList= [tb])(F:C.prog.underlying tb=some .bool)(g:∀b gs:List (DataW H),b.length=fn.params.size->gs.length=s.vars.length->s.fn H (b++gs)= {results:=[.lit (.bool true)],args:=b,vars:=gs})(a:∀(W:World) (base:Nat) (args:Array Value),args.size=fn.params.size->(∀(j:Nat) t v,fn.params[j]?=some t->args[j]?=some v->Rd C.prog W t v.cells.toList/\Value.okWide C.prog W .any base t v)->W.ShapedOpen C.prog->X W->
   Calls C.prog f args W (bW λv r=>v=.bool true/\Below W.heap.size W r)):
  ReturnsInHanded {} C os f .any (λw args=>(s.pre enc C.prog fn conds apart w args/\X w)/\sizedMet enc C.prog fn (OpenSpec.ofChange s) apart w args) (s.post enc C.prog fn apart fresh handsOn false):=by
 refine returnsInHanded_of_calls own started c witness ?_;intro w tape i _ D _ B m A;obtain⟨_,_,_,u,l,_,_,_,_,o⟩:=B;have e:u=fn:=cQ (l.symm.trans z);subst e;obtain⟨⟨⟨b,gs,before,hw,O⟩,hx⟩,P⟩:=m;have y:=DataW.Whole.of_heap (w':=w.forCall tape i) (by rfl) hw;obtain⟨p,q,x,N,M,K,L⟩:=id y;refine(a (w.forCall tape i) w.heap.size i.args (by have:=(Ea x).1;simpa using this) (λj t v E h=>⟨NF x j t v (by simpa using E) (by simpa using h),o j t v E h⟩) D (G _ _ (by rfl) hx)).mono λe r ⟨v,he,h,I⟩=>?_;subst he;subst h;exact ChangeSpec.post_blind (Zu J d k n F (g b gs) y I)
end
end Go.Sp
namespace Go
def sc(P:Program)(fn:Func)(s:ChangeSpec)(c:OpenClaim):Bool:=
 c.wf (OpenSpec.ofChange s)&&laidOutB P&&mapsRowed P&&fn.params.all (P.readableRec ·)&&namedTie P c.named s.vars
def sd(P:Program)(f:FuncId)(c:OpenClaim):Bool:=
 (c.stops== [])&&(P.stops== [])&&(c.knobs== [])&&(P.stopKnobs== [])&&(c.inPlace==P.inPlace f)
def se(P:Program)(f:FuncId)(c:OpenClaim):Bool:=c.unfollowed==P.unfollowed f
def sf(P:Program)(f:FuncId)(c:OpenClaim):Bool:=c.recurses==P.recurses f
def si(P:Program)(f:FuncId)(c:OpenClaim):Bool:=c.named==P.varsNamed f
def sj(P:Program)(fn:Func)(s:ChangeSpec)(c:OpenClaim):Bool:=
 (c.maps==(fn.params.toList++s.plain.varTypes P).any (P.mapsRec ·))&&(c.ifaces==(fn.params.toList++s.plain.varTypes P).any (P.ifacesRec ·))&&(c.mapsOut==P.mapsAmong fn.resultTypes.toList)&&
 (c.loops==(fn.params.toList++s.plain.varTypes P).any (P.loopsFrom ·))&&(c.wideKeys==(fn.params.toList++s.plain.varTypes P++fn.resultTypes.toList).any (P.wideKeysFrom ·))
def sk(P:Program)(fn:Func)(s:ChangeSpec)(c:OpenClaim):Bool:=
 s.vars.all (P.varReadable ·)&&fn.resultTypes.all (λt=>P.readableRec t&&decide (t<P.types.size))&&(c.ifacesOut==fn.resultTypes.toList.any (P.ifacesRec ·))&&(c.loopsOut==fn.resultTypes.toList.any (P.loopsFrom ·))&&(c.plainKeys==P.plainKeys)&&c.shortTexts.isNone
def sm(P:Program)(c:OpenClaim):Bool:=P.stopsHeard&&P.mayEnter&&(c.lifted==P.liftsFinal)&&(P.make==some c.make)
def sn(P:Program)(fn:Func)(s:ChangeSpec)(c:OpenClaim):Bool:=
 (c.kinds==(if c.domain.isEmpty then[]else fn.params.toList.map λt=>match P.underlying t with|some (.int k)=>some k|_=>none))&&(c.pinned==c.pinnedBy)&&
 (c.veiled==(fn.params.toList++s.plain.varTypes P++fn.resultTypes.toList).any (P.veiledRec ·))&&c.veiledFits P fn.params.toList (fn.params.toList++s.plain.varTypes P++fn.resultTypes.toList)
def w3{P:Program}{f:FuncId}{fn:Func}{s:ChangeSpec}{c:OpenClaim}(a:sc P fn s c=true)(hB:sd P f c=true)(h:se P f c=true)(i:sf P f c=true)(j:si P f c=true)(b:sj P fn s c=true)(d:sk P fn s c=true)(e:sm P c=true)(g:sn P fn s c=true):
  joinedFacts P f fn s c=true:=by
 unfold sc at a;unfold sd at hB;unfold se at h;unfold sf at i;unfold si at j;unfold sj at b;unfold sk at d;unfold sm at e;unfold sn at g;unfold joinedFacts;simp only[dG]at a hB b d e g ⊢;obtain⟨⟨⟨⟨k,l⟩,a3⟩,a4⟩,a5⟩:=a;obtain⟨⟨⟨⟨b1,b2⟩,b3⟩,b4⟩,b5⟩:=hB;obtain⟨⟨⟨⟨f1,f2⟩,f3⟩,f4⟩,f5⟩:=b;obtain⟨⟨⟨⟨⟨m,n⟩,o⟩,p⟩,q⟩,r⟩:=d;obtain⟨⟨⟨h1,t⟩,u⟩,v⟩:=e;obtain⟨⟨⟨i1,i2⟩,i3⟩,i4⟩:=g;exact⟨⟨⟨⟨⟨⟨⟨⟨⟨⟨⟨⟨⟨⟨⟨⟨⟨⟨⟨⟨⟨⟨⟨⟨⟨⟨⟨⟨⟨⟨⟨k,l⟩,a3⟩,a4⟩,a5⟩,b1⟩,b2⟩,b3⟩,b4⟩,b5⟩,h⟩,i⟩,j⟩,f1⟩,f2⟩,f3⟩,f4⟩,f5⟩,m⟩,n⟩,o⟩,p⟩,q⟩,r⟩,h1⟩,t⟩,u⟩,v⟩,i1⟩,i2⟩,i3⟩,i4⟩
end Go
namespace Go.Proofs.YtafigbgagbolgaaGreatDoor
open Go Go.Vc Go.Sp Go.Mp Go.RowKit Go.ChangeShapes
def own:ownKnob P.godebug=none:=by kernel_rfl
def laidOut:laidOutB P=true:=by kernel_rfl
def wf_i64{n:Int}(h:(Lit.int .i64 n).wf=true): -9223372036854775808<=n/\n<=9223372036854775807:=by
 simpa[Lit.wf,IntKind.has,IntKind.min,IntKind.max,IntKind.signed,IntKind.bits]using h
def mZ{W:World}{base:Nat}{v:Value}(h:Rd P W hb v.cells.toList/\Value.okWide P W .any base hb v):∃n,v=.int .i64 n/\ -9223372036854775808<=n/\n<=9223372036854775807:=by
 obtain⟨h1,a⟩:=h;rw[vO a cr]at h1;obtain⟨n,b,c⟩:=h1.e1 (k:=.i64) cr;exact⟨n,b,wf_i64 c⟩
abbrev ih:List (String×DataW Unit):=Rows.vmSpawnsRow.laid
def w4(os:Os)(args:Array Value):laidMetH P ih ((World.laidAll P os ih).forCall (λ_ _=>0) ⟨#[],args,[]⟩).memory:=by
 rw[MakeChecks.laidMetH_plain _ _ _ cr];exact laidMet_laidAll _ cr cr
def SV:P.globalNamed "math/bits.deBruijn64tab" =some 2:=by kernel_rfl
def aMa{W:World}(h:laidMetH P ih W):∃o,W.heap[2]?=some o/\p1 o:=by
 rw[MakeChecks.laidMetH_plain _ _ _ cr]at h;have a:Lib.TabIs P W "math/bits.deBruijn64tab" .u8 (Lib.deBruijn64tab.map λn:Nat=>(n:Int)):=
  Lib.tabIs_of_head (t:=355) (e:=VZ) (n:=64) SV cr cr cr cr cr h
 unfold Lib.TabIs World.var? at a;rw[SV,G5]at a;split at a
 ·next c t z f=>
  refine⟨_,f,c,t,z,rfl,λj b=>?_⟩;cases a;have d:Lib.deBruijn64tab.length=64:=by decide
  simp[dK,d,b]
 ·cases a
def w5{W:World}(h:laidMetH P ih W):Sep (World.env W) [cy W.heap] W:=Sep.cC.2 ⟨aMa h,Sep.start W⟩
def w6{W w':World}(h:Sep (World.env W) [cy W.heap] w'):Below W.heap.size W w':=(Sep.cC.1 h).2.below (i:=0) rfl
end Go.Proofs.YtafigbgagbolgaaGreatDoor
namespace Go.Kc
open Go Go.Kt Go.Sp
variable{S:Cs}
namespace By
variable{n:Nat}{X t:List UInt8}{i j:Int}
def w7(h:X.length=16*n)(d:0<=i)(e:0<=j)(c:i≠j):rd n (wr n X i t).1 j=rd n X j:=by
 unfold rd;by_cases hp:pg n j
 ·rw[bM hp,bM hp];congr 1;unfold wr;split
  ·next a=>
   apply g6;intro k;by_cases b:k<16;·rw[ob b,ob b,It h a.1 a.2,cM]
   ·rw[fH (by unfold gN;simp;omega),fH (by unfold gN;simp;omega)]
  ·rfl
 ·rw[bJ hp,bJ hp]
def AN(h:X.length=16*n)(hp:pg n i)(a:t.length=16):rd n (wr n X i t).1 i=(t,0):=by
 unfold rd;rw[bM hp];congr 1;unfold wr;rw[bM ⟨hp,a⟩];apply g6;intro k;by_cases b:k<16;·rw[ob b,It h hp a,eG,sF]
 ·rw[fH (by unfold gN;simp;omega),fH bA]
def aJv(h:X.length=16*n)(b:0<=i)(c:0<=j)(a:i≠j):rd n (cl n X i).1 j=rd n X j:=w7 h b c a
def SW(h:X.length=16*n)(hp:pg n i):(rd n X i).1.length=16:=by
 unfold rd;rw[bM hp];exact BY h hp
end By
structure so(S:Cs)(id:Int)(p:Pg)(S':Cs):Prop where
 fr:S'.fr=S.fr.di p.at_ (c8 S.tree p.owner)
 oth:∀x,x≠id->S'.bz.pg x=S.bz.pg x
 AO:(0<=p.kf/\S'.sl=S.sl)\/(p.kf<0/\S'.files=S.files/\∃a:Nat,S.sl.bK[a]?=some false/\(∀g∈c8 S.tree p.owner,cJ S.sl.used g+1<=db S.sl.used g)/\
  S'.sl=⟨S.sl.bK.set a true,(By.wr S.sl.bK.length S.sl.cG a (S.text p)).1,dt S.sl.used (c8 S.tree p.owner) 1⟩/\S'.bz.pg id=some (p.to 2 a))
def AP(h:Inv S){id:Int}{p:Pg}(hp:S.bz.pg id=some p)(h1:p.place=1)(ho:(S.out id).2=true):so S id p (S.out id).1:=by
 have _:=h1;unfold Cs.out at ho ⊢;rw[h.bH hp]at ho ⊢;dsimp only at ho ⊢;by_cases j:0<=p.kf
 ·rw[bM j];dsimp only;obtain⟨q,k,m,n,E,F,G,H⟩:=x7 id p p hp;obtain⟨z,v,w,A,B,C,D⟩:=vp (S:=S) id p;have t:=h.clean id p;rw[t.l8 k];refine⟨?_,λx hx=>?_,.inl ⟨j,w⟩⟩
  ·show(S.clean id p).fr.di p.at_ (S.chain p.owner)=_;rw[v];rfl
  ·show((S.clean id p).bz.dP id q 0 0).pg x=_;rw[iW,bJ hx];unfold Cs.clean;split
   ·show(S.bz.mark id false).1.pg x=_;rw[(od _ _ _).2.2.2];cases S.bz.pg x with
    |none=>rfl
    |some r=>show some (if x=id then _ else r)=_;rw[bJ hx]
   ·rfl
 ·rw[bJ j]at ho ⊢;split at ho
  ·next hw=>
   rw[bM hw];dsimp only;unfold Cs.fa at hw ⊢;split at hw;·cases hw
   next c=>
   rw[bJ c];dsimp only at hw ⊢;split at hw;·cases hw
   next hf=>
   rw[bJ hf];dsimp only;obtain⟨a,s,_,he⟩:=x4 (by simpa using hf);rw[he];dsimp only;have e:=h.own _ _ hp;have d:∀g∈c8 S.tree p.owner,cJ S.sl.used g+1<=db S.sl.used g:=by
    intro g f;have:=(not_exists.1 (λi=>c (sK.2 i))) g;simp only[gj,not_and,Int.not_le]at this;have:=this f;omega
   have l:df S.sl.used (S.chain p.owner) 1=(dt S.sl.used (c8 S.tree p.owner) 1, -1,0):=by
    by_cases o:(df S.sl.used (S.chain p.owner) 1).2.2=0;·exact(th o).2.1
    ·obtain⟨g,f,_,_,y⟩:=ti (tj h.wf e ⟨bO,bO⟩) o;have:=d g f;omega
   rw[l];have u:∀q b,S.bz.pg b=some q->q.place=2->q.at_=(a:Int)->(2:Int)≠0->b=id:=by
    intro q b k m n _;have:=(h.sl.taken a).2 ⟨b,q,k,m,n⟩;rw[s]at this;cases this
   rw[h.ct.put_eq hp ⟨bO,bO,bA,λi=>absurd i bO⟩ u];refine⟨rfl,λx hx=>c9 _ _ hx,.inr ⟨bA,rfl,a,s,d,?_,l6 _ _ _⟩⟩;show(⟨_,(By.wr (S.sl.bK.set a true).length _ _ _).1,_⟩:eJ)=_;rw[dA]
  ·cases ho
def Has(S:Cs)(id:Int)(t:List UInt8):Prop:=∃p,S.bz.pg id=some p/\p.kf<0/\0<p.refs/\S.text p=t
variable{S':Cs}{id:Int}{t:List UInt8}
def uB{p:Pg}(h1:p.place=1):S.text p=(By.rd S.fr.bK.length S.fr.cG p.at_).1:=by unfold Cs.text;rw[bM h1]
def AQ{p:Pg}(h1:p.place=2):S.text p=(By.rd S.sl.bK.length S.sl.cG p.at_).1:=by unfold Cs.text;rw[cM,bM h1]
def SX(h:Inv S){p:Pg}(hp:S.bz.pg id=some p)(a:p.kf<0):p.place=1\/p.place=2:=by
 have h1:=(h.ct.pl _ _ hp).1;have b:=h.anon _ _ hp a;omega
def uC{pl:Int}{s:eJ}(b:hZ S.bz S.tree s pl){p:Pg}(hp:S.bz.pg id=some p)(h1:p.place=pl)(a:0<=p.at_):By.pg s.bK.length p.at_/\s.bK[p.at_.toNat]?=some true:=by
 have:=(b.taken p.at_.toNat).2 ⟨id,p,hp,h1,bA⟩;have c:=(cT.1 this).1;exact⟨⟨a,bA⟩,this⟩
def Has.dX(h:Inv S)(H:Has S id t)(f:∀p,S.bz.pg id=some p->p.kf<0->0<p.refs->∃q,S'.bz.pg id=some q/\q.kf=p.kf/\q.refs=p.refs/\q.place=p.place/\q.at_=p.at_)(d:∀p,S.bz.pg id=some p->p.place=1->By.rd S'.fr.bK.length S'.fr.cG p.at_=By.rd S.fr.bK.length S.fr.cG p.at_)(i:∀p,S.bz.pg id=some p->p.place=2->By.rd S'.sl.bK.length S'.sl.cG p.at_=By.rd S.sl.bK.length S.sl.cG p.at_):Has S' id t:=by
 obtain⟨p,hp,a,g,j⟩:=H;obtain⟨q,m,k,l,b,c⟩:=f p hp a g;refine⟨q,m,by rw[k];exact a,by rw[l];exact g,?_⟩;rcases SX h hp a with e|e;·rw[uB (by rw[b,e]),c,d p hp e,<- uB e];exact j
 ·rw[AQ (by rw[b,e]),c,i p hp e,<- AQ e];exact j
def Has.len(h:Inv S)(H:Has S id t):t.length=16:=by
 obtain⟨p,hp,a,c,b⟩:=H;have h1:=(h.ct.pl _ _ hp).1;rw[<- b];rcases SX h hp a with e|e;·rw[uB e];exact By.SW h.fr.len (uC h.fr hp e h1.2.2.1).1
 ·rw[AQ e];exact By.SW h.sl.len (uC h.sl hp e h1.2.2.1).1
def ox{n:Nat}{s:eJ}{a b:Int}{c:bU}(g:n=s.bK.length)(h:s.cG.length=16*s.bK.length)(e:0<=a)(f:0<=b)(d:a≠b):By.rd (s.di a c).bK.length (s.di a c).cG b=By.rd n s.cG b:=by
 subst g;show By.rd (mJ s.bK a).1.length (By.cl s.bK.length s.cG a).1 b=_;rw[pP];exact By.aJv h e f d
def Has.dx(h:Inv S)(H:Has S id t){x:Int}{p:Pg}(hp:S.bz.pg x=some p)(h1:p.place=1)(f:so S x p S'):Has S' id t:=by
 have l:=(h.ct.pl _ _ hp).1.2.2.1;by_cases hx:id=x
 ·subst hx;obtain⟨v,g,m,o,r⟩:=H;rw[hp]at g;cases g;rcases f.AO with⟨u,_⟩|⟨_,_,a,k,_,b,n⟩
  ·omega
  ·refine⟨_,n,m,o,?_⟩;have s:=(cT.1 k).1;rw[AQ rfl,b];show(By.rd (S.sl.bK.set a true).length (By.wr S.sl.bK.length S.sl.cG a (S.text p)).1 (a:Int)).1=t;rw[dA,By.AN h.sl.len ⟨bA,bA⟩ (Has.len h ⟨p,hp,m,o,rfl⟩)];exact r
 ·refine H.dX h (λq c _ _=>⟨q,by rw[f.oth _ hx];exact c,rfl,rfl,rfl,rfl⟩) (λq c e=>?_) (λq c e=>?_)
  ·have d:=(h.ct.pl _ _ c).1.2.2.1;rw[f.fr];exact ox rfl h.fr.len l d (λj=>hx (h.ct.one hp c bA bA j.symm))
  ·rcases f.AO with⟨_,b⟩|⟨_,_,a,k,_,b,_⟩
   ·rw[b]
   ·have d:=(h.ct.pl _ _ c).1.2.2.1;have i:=(uC h.sl c e d).2;rw[b];show By.rd (S.sl.bK.set a true).length _ _=_;rw[dA];exact By.w7 h.sl.len bA d (λj=>by
     rw[<- j,dk,k]at i;cases i)
def Has.same(h:Inv S)(H:Has S id t)(h1:S'.bz.pg id=S.bz.pg id)(a:S'.fr.bK.length=S.fr.bK.length/\S'.fr.cG=S.fr.cG)(b:S'.sl.bK.length=S.sl.bK.length/\S'.sl.cG=S.sl.cG):Has S' id t:=
 H.dX h (λp hp _ _=>⟨p,by rw[h1];exact hp,rfl,rfl,rfl,rfl⟩) (λp _ _=>by rw[a.1,a.2]) (λp _ _=>by rw[b.1,b.2])
end Go.Kc
namespace Go.Kc
open Go Go.Kt Go.Sp
variable{S S':Cs}{id:Int}{t:List UInt8}
def Has.get(h:Inv S)(H:Has S id t)(x a:Int):Has (S.get x a).1 id t:=by
 unfold Cs.get;dsimp only;split;·exact H
 ·dsimp only;split;·exact H.same h rfl ⟨rfl,rfl⟩ ⟨rfl,rfl⟩
  ·exact H
def aBI{C:List ei}(d:C.length=64)(l:bU){n:Int}(e:0<=n)(g:Int):cJ (fJ C l n).1 g<=cJ C g:=by
 cases a:iH l n with
 |false=>unfold fJ;rw[a];exact e7 _
 |true=>
  by_cases b:∃x∈l,cJ C x<n;·rw[B5 a b];exact e7 _
  ·rw[rD a (λx hx=>Int.not_lt.1 (λc=>b ⟨x,hx,c⟩))];have:=l4.1 a;rw[oc d this.1 this.2.1];split<;>omega
structure ds(S S':Cs):Prop where
 lim:∀g,db S'.fr.used g=db S.fr.used g/\db S'.sl.used g=db S.sl.used g
 mem:∀g,S'.memory g<=S.memory g\/S'.memory g<=db S.fr.used g
 swp:∀g,S'.swap g<=S.swap g\/S'.swap g<=db S.sl.used g
 bK:S'.fr.bK.length=S.fr.bK.length/\S'.sl.bK.length=S.sl.bK.length
def ds.refl(S:Cs):ds S S:=⟨λ_=>⟨rfl,rfl⟩,λ_=>.inl (e7 _),λ_=>.inl (e7 _),rfl,rfl⟩
def ds.same(h1:S'.fr.used=S.fr.used)(a:S'.sl.used=S.sl.used)(b:S'.fr.bK.length=S.fr.bK.length)(c:S'.sl.bK.length=S.sl.bK.length):ds S S':=by
 refine⟨λg=>by rw[h1,a];exact⟨rfl,rfl⟩,λg=>.inl ?_,λg=>.inl ?_,b,c⟩;·unfold Cs.memory;rw[h1];exact e7 _
 ·unfold Cs.swap;rw[a];exact e7 _
def ds.trans{A B C:Cs}(h:ds A B)(h':ds B C):ds A C:=by
 refine⟨λg=>⟨(h'.lim g).1.trans (h.lim g).1,(h'.lim g).2.trans (h.lim g).2⟩,λg=>?_,λg=>?_,h'.bK.1.trans h.bK.1,h'.bK.2.trans h.bK.2⟩;·have h1:=h.mem g;have a:=h'.mem g;have b:=(h.lim g).1;omega
 ·have h1:=h.swp g;have a:=h'.swp g;have b:=(h.lim g).2;omega
def ds.used(b:S.fr.used.length=64)(f:S.sl.used.length=64)(h1:S'.fr.used=S.fr.used\/(∃l n,0<=n/\S'.fr.used=(fJ S.fr.used l n).1)\/∃l,((∀x∈l,0<=x/\x<64)/\l.Nodup)/\(∀g∈l,cJ S.fr.used g+1<=db S.fr.used g)/\S'.fr.used=dt S.fr.used l 1)(e:S'.sl.used=S.sl.used\/(∃l n,0<=n/\S'.sl.used=(fJ S.sl.used l n).1)\/∃l,((∀x∈l,0<=x/\x<64)/\l.Nodup)/\(∀g∈l,cJ S.sl.used g+1<=db S.sl.used g)/\S'.sl.used=dt S.sl.used l 1)(i:S'.fr.bK.length=S.fr.bK.length)(j:S'.sl.bK.length=S.sl.bK.length):ds S S':=by
 have key:∀ {C a:List ei},C.length=64->(a=C\/(∃l n,0<=n/\a=(fJ C l n).1)\/∃l,((∀x∈l,0<=x/\x<64)/\l.Nodup)/\(∀g∈l,cJ C g+1<=db C g)/\a=dt C l 1)->
   ∀g,db a g=db C g/\(cJ a g<=cJ C g\/cJ a g<=db C g):=by
  intro C a b h g;rcases h with rfl|⟨l,n,k,rfl⟩|⟨l,c,hle,rfl⟩
  ·exact⟨rfl,.inl (e7 _)⟩
  ·exact⟨B8 b _ _ _,.inl (aBI b _ k _)⟩
  ·refine⟨tf b c.1 c.2,?_⟩;rw[oc b c.1 c.2];by_cases d:g∈l;·rw[bM d];exact .inr (hle g d)
   ·rw[bJ d];exact .inl bA
 exact⟨λg=>⟨(key b h1 g).1,(key f e g).1⟩,λg=>(key b h1 g).2,λg=>(key f e g).2,i,j⟩
def ds.dx(h:Inv S){x:Int}{p:Pg}(hp:S.bz.pg x=some p)(c:so S x p S'):ds S S':=by
 have d:=l5 h.wf (h.own _ _ hp);refine ds.used h.fr.used.len h.sl.used.len (.inr (.inl ⟨c8 S.tree p.owner,1,bO,by rw[c.fr];rfl⟩)) ?_ (by rw[c.fr];exact pP _ _) ?_;rcases c.AO with⟨_,b⟩|⟨_,_,a,_,e,b,_⟩
 ·exact .inl (by rw[b])
 ·exact .inr (.inr ⟨_,⟨d.1,d.2.1⟩,e,by rw[b]⟩)
 ·rcases c.AO with⟨_,b⟩|⟨_,_,a,_,_,b,_⟩
  ·rw[b]
  ·rw[b];exact dA
def ds.outs(h:Inv S)(ho:et S S'):ds S S':=by
 induction ho with
 |refl S=>exact .refl S
 |step hp h1 a _ b=>exact(ds.dx h hp (AP h hp h1 a)).trans (b (h.out hp h1))
def ds.cN(h:Inv S)(f:S.bz.next<16777216){g:Int}(d:S.live g=true)(text:List UInt8):ds S (S.cN g text).1:=by
 have c:=l5 h.wf d;rcases rH h f d text with⟨S0,a,k,he,_,i⟩|⟨S0,j,k,he⟩
 ·have b:=k.outs.inv h;have e:=(k.outs.kept h).tree;refine(ds.outs h k.outs).trans (ds.used b.fr.used.len b.sl.used.len (.inr (.inr ⟨c8 S.tree g,⟨c.1,c.2.1⟩,k.lim,?_⟩)) (.inl ?_) (by rw[he];exact dA) (by rw[he];rfl));·rw[he,e];rfl
  ·rw[he];rfl
 ·rw[he];exact ds.outs h k.outs
def ds.fresh(h:Inv S)(b:S.bz.next<16777216)(g:Int):ds S (S.fresh g).1:=by
 unfold Cs.fresh;split;·exact .refl S
 ·next a=>exact ds.cN h b (by simpa using a) _
def ds.copy(h:Inv S)(c:S.bz.next<16777216)(x g:Int):ds S (S.copy x g).1:=by
 unfold Cs.copy;dsimp only;split;·exact .refl S
 ·next a=>
  have a:S.live g=true:=by
   cases b:S.live g with
   |true=>rfl
   |false=>exact absurd (.inr (.inl b)) a
  exact ds.cN h c a _
def ds.cb(h:Inv0 S)(c:∀x p,S.bz.pg x=some p->p.kf<0->p.place≠0)(x g:Int):ds S (S.cb x g).1:=by
 have f:Inv S:=⟨h,c⟩
 by_cases d:S.bz.pg x=none\/S.live g=false\/∃p,S.bz.pg x=some p/\p.place=0/\p.kf<0;·rw[og h d];exact .refl S
 ·obtain⟨p,hp⟩:∃p,S.bz.pg x=some p:=by
   cases n:S.bz.pg x with
   |none=>exact absurd (.inl n) d
   |some p=>exact⟨p,rfl⟩
  have i:S.live g=true:=by
   cases m:S.live g with
   |true=>rfl
   |false=>exact absurd (.inr (.inl m)) d
  by_cases h1:p.place=1;·rw[tn h hp h1 i];exact ds.same rfl rfl rfl rfl
  ·rcases rI h c hp i (λe=>d (.inr (.inr ⟨p,hp,e⟩))) h1 with⟨S0,a,b,_⟩|⟨S0,o,b,he⟩
   ·have j:=b.took.outs.inv f;have l:S.live (if p.place=0 then g else p.owner)=true:=by
     split;·exact i
     ·exact h.own _ _ hp
    have k:=l5 h.wf l;refine(ds.outs f b.took.outs).trans (ds.used j.fr.used.len j.sl.used.len (.inr (.inr ⟨_,⟨k.1,k.2.1⟩,b.took.lim,b.used⟩)) ?_ (by rw[b.bK];exact dA) ?_)
    ·rw[b.sl];split;·exact .inr (.inl ⟨_,1,bO,rfl⟩)
     ·exact .inl rfl
    ·rw[b.sl];split;·exact pP _ _
     ·rfl
   ·rw[he];exact ds.outs f b.outs
def ds.cD(h:Inv S)(m:S.bz.next<16777216)(k:Int×Int)(g:Int):ds S (S.cD k g).1:=by
 unfold Cs.cD;dsimp only;split;·exact .refl S
 ·next j=>
  have r:S.live g=true:=by
   cases a:S.live g with
   |true=>rfl
   |false=>exact absurd (.inr a) j
  have hf:ed S.files k=true:=by
   cases a:ed S.files k with
   |true=>rfl
   |false=>exact absurd (.inl a) j
  by_cases hm:S.bz.of k<0
  ·rw[dh hm];simp only[fP];obtain⟨kf,ki⟩:=k;have e:=rJ hf;have l:=oe S.bz (kf:=kf) (ki:=ki) (o:=g) ⟨h.ct.next,m⟩ (.inr hm);have n:=h.toInv0.make m (kf:=kf) (ki:=ki) r (.inr ⟨hm,hf⟩);have f:fX S.bz kf ki=(kf,ki):=by unfold fX;rw[bJ (by have:0<=kf:=e;omega)]
   have c:∀x p,(S.bz.make kf ki g).1.pg x=some p->p.kf<0->p.place≠0:=by
    intro x q d b;rw[l.2.2]at d;split at d
    ·rw[<- cQ d,f]at b;have:kf<0:=b;have:0<=kf:=e;omega
    ·exact h.anon _ _ d b
   have i:=(ds.same (S:=S) (S':={S with bz:=(S.bz.make kf ki g).1}) rfl rfl rfl rfl).trans (ds.cb n c (S.bz.make kf ki g).2.1 g);split;·exact i
   ·exact i.trans (ds.same rfl rfl rfl rfl)
  ·rw[c4 hm];simp only[kK,gq];have:=ds.cb h.toInv0 h.anon (S.bz.of k) g;split<;>exact this
def ds.get(x a:Int):ds S (S.get x a).1:=by
 unfold Cs.get;dsimp only;split;·exact .refl S
 ·dsimp only;split;·exact ds.same rfl rfl rfl rfl
  ·exact .refl S
def ds.put(x a:Int)(b:UInt8):ds S (S.put x a b).1:=by
 unfold Cs.put;dsimp only;split;·exact .refl S
 ·split;·exact ds.same rfl rfl rfl rfl
  ·exact .refl S
def ds.bX(h:Inv S)(x n:Int):ds S (S.bX x n).1:=by
 rcases rK h x n with⟨_,he⟩|⟨p,hp,⟨_,he⟩|⟨_,_,he⟩|⟨_,_,_,_,_,c,_,_,a,b,_⟩⟩
 ·rw[he];exact .refl S
 ·rw[he];exact .refl S
 ·rw[he];exact ds.same rfl rfl rfl rfl
 ·refine ds.used h.fr.used.len h.sl.used.len ?_ ?_ (by rw[a];split;exact pP _ _;rfl) (by rw[b];split;exact pP _ _;rfl)
  ·rw[a];split;·exact .inr (.inl ⟨_,1,bO,rfl⟩)
   ·exact .inl rfl
  ·rw[b];split;·exact .inr (.inl ⟨_,1,bO,rfl⟩)
   ·exact .inl rfl
def ds.remove(h:Inv S)(g:Int):ds S (S.remove g).1:=by
 unfold Cs.remove;dsimp only;split;·exact ds.used h.fr.used.len h.sl.used.len (.inr (.inl ⟨_,_,(h.fr.used.of g).1.1,rfl⟩)) (.inr (.inl ⟨_,_,(h.sl.used.of g).1.1,rfl⟩)) rfl rfl
 ·exact .refl S
def ds.bZ(p:Int):ds S (S.bZ p).1:=by
 unfold Cs.bZ;dsimp only;split;·exact ds.same rfl rfl rfl rfl
 ·exact .refl S
end Go.Kc
namespace Go.Kc
open Go Go.Kt
variable{S T:Cs}
inductive Path:Nat->Cs->Cs->Prop
 |nil (n:Nat) (S:Cs):Path n S S
 |act {n:Nat} {S T:Cs} (x:Act) (hx:3<=x.k/\x.k<=11):Path n S T->Path (n+grow x) S (T.act x).1
def Path.runs{n:Nat}(h:Path n S T):cv n S T:=by
 induction h with
 |nil n=>exact .nil n _
 |act x _ _ a=>exact .act x a
def Path.up{n m:Nat}(h:Path n S T)(k:n<=m):Path m S T:=by
 induction h generalizing m with
 |nil n=>exact .nil m _
 |act x hx h a=>
  obtain⟨j,rfl⟩:∃j,m=j+grow x:=⟨m-grow x,bA⟩
  exact .act x hx (a bA)
def Path.trans{n m:Nat}{U:Cs}(h:Path n S T)(k:Path m T U):Path (n+m) S U:=by
 induction k with
 |nil m=>exact h.up (Nat.le_add_right _ _)
 |act x hx k a=>rw[<- uV];exact .act x hx (a h)
def Path.inv{n:Nat}(h:Path n S T)(b:Inv S)(a:S.bz.next+n<=16777216):Inv T/\S.bz.next<=T.bz.next/\T.bz.next<=S.bz.next+n:=h.runs.inv b a
def Path.one(k a b c kf ki:Int)(hx:3<=k/\k<=11):Path (grow ⟨k,a,b,c,kf,ki⟩) S (S.act ⟨k,a,b,c,kf,ki⟩).1:=by
 have:=Path.act ⟨k,a,b,c,kf,ki⟩ hx (Path.nil 0 S);rwa[e5]at this
def Path.fresh(g:Int):Path 1 S (S.fresh g).1:=Path.one 3 g 0 0 0 0 bO
def Path.cD(k:Int×Int)(g:Int):Path 1 S (S.cD k g).1:=Path.one 4 g 0 0 k.1 k.2 bO
def Path.cb(id g:Int):Path 0 S (S.cb id g).1:=Path.one 5 g id 0 0 0 bO
def Path.copy(id g:Int):Path 1 S (S.copy id g).1:=Path.one 6 g id 0 0 0 bO
def Path.get(id a:Int):Path 0 S (S.get id a).1:=Path.one 8 a id 0 0 0 bO
def Path.bX(id n:Int):Path 0 S (S.bX id n).1:=Path.one 9 0 id n 0 0 bO
def Path.put(id a:Int)(b:UInt8):Path 0 S (S.put id a b).1:=by
 have h:=Path.one (S:=S) 7 a id (b.toNat:Int) 0 0 bO;have e:(S.act ⟨7,a,id,(b.toNat:Int),0,0⟩).1=(S.put id a (l1 (b.toNat:Int))).1:=rfl;have c:l1 (b.toNat:Int)=b:=by
  unfold l1;have:=b.toNat_lt;rw[show((b.toNat:Int)%256).toNat=b.toNat by omega];exact UInt8.ofNat_toNat
 rw[e,c]at h;exact h
end Go.Kc
namespace Go.Kc
open Go Go.Kt Go.Sp
variable{S S' T:Cs}{id g:Int}
def kr(p:Pg):Int×Int×Int:=(p.kf,p.ki,p.refs)
structure Base(S S':Cs):Prop where
 tree:S'.tree=S.tree
 guards:S'.guards=S.guards
 bP:S'.files.bP=S.files.bP
def Base.refl(S:Cs):Base S S:=⟨rfl,rfl,rfl⟩
def Base.has(h:Base S S')(k:Int×Int):ed S'.files k=ed S.files k:=by unfold ed nm;rw[h.bP]
structure hQ(S S':Cs):Prop extends Base S S' where
 kr:∀x,(S'.bz.pg x).map kr=(S.bz.pg x).map kr
def hQ.refl(S:Cs):hQ S S:=⟨Base.refl S,λ_=>rfl⟩
def hQ.bH(h:hQ S S'){p:Pg}(hp:S.bz.pg id=some p):∃q,S'.bz.pg id=some q/\q.kf=p.kf/\q.ki=p.ki/\q.refs=p.refs:=by
 have:=h.kr id;rw[hp]at this;cases a:S'.bz.pg id with
 |none=>rw[a]at this;cases this
 |some q=>
  rw[a]at this;have e:Kc.kr q=Kc.kr p:=cQ this;unfold Kc.kr at e;simp only[xB]at e;exact⟨q,rfl,e⟩
end Go.Kc
namespace Go.Mp
open Go Go.Vc Go.Sp Go.Proofs Go.Kc Go.Kw Go.Kt
variable{E:Env}{L:ch}{w W:World}{A:At}{v:Nat}{V:Vs}
def oy{fr sl:Int}{sz:Sl}{l:bU}{o:Array Obj}(b:Ints E (cy o::L) sz l)(a:sz.n<=sz.c)(h:Sep E (cy o::L) w){K:Ending->bh6}(k:∀(A:At) (v:Nat) w',A.o=o->St E A v (Vs.new fr sl l) L w'->K (.returned (Pb v)) w'):Calls P acl #[Iv fr,Iv sl,Sv sz] w K:=by
 refine use (SS b a h) ?_;rintro _ c ⟨A,v,rfl,ho,h1⟩;exact k A v c ho (St.iw h1)
def sq(fr sl:Int)(l:bU):(Vs.new fr sl l).core.bz.next=0:=rfl
end Go.Mp
namespace Go.Mp
open Go Go.Vc Go.Sp Go.Proofs Go.Kc
variable{E:Env}{L:ch}{w:World}{A:At}{S:Cs}
def qT(W:World)(s:Sl)(l:bU):Prop:=s.n=l.length/\s.n<=s.c/\∀(i:Nat) x,l[i]?=some x->∃a,s.p=some a/\W.cell? (a.add i)=some (Iv x)
def qT.ints{W:World}{s:Sl}{l:bU}{q:Nat}(h:qT W s l)(c:L[q]?=some (cy W.heap)):Ints E L s l:=by
 refine⟨h.1,λw d i x hx=>?_⟩;obtain⟨a,hp,b⟩:=h.2.2 i x hx;exact⟨a,hp,nN d c b⟩
end Go.Mp
