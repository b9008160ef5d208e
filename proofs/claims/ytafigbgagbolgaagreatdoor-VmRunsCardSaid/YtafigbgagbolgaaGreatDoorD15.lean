/- A part of the proof. -/
import Derived.Test.YtafigbgagbolgaaGreatDoorD14
import Derived.HandedShaped
import Derived.LaidMore
import Derived.JoinedOf
import Derived.Lay
import Derived.OpenShut
import Derived.Stop.LaidErr
import Derived.Lib.LaidTab
import Derived.SevenTiedAt
import Derived.Test.YtafigbgagbolgaaGreatDoorRows
import Derived.Test.YtafigbgagbolgaaGreatDoorTie
import Derived.Test.YtafigbgagbolgaaGreatDoorCards
set_option linter.all false
set_option maxRecDepth 100000
open Go.IntKind(i64 u64)
namespace Go.Mp
open Go Go.Vc Go.Sp Go.Proofs Go.Kc Go.Kw Go.Kt
variable{E:Env}{L:cr}{w W:bI}{A:At}{S:Cs}{v:Nat}{r:Sl}{ps:PS}
def j9(o:bX Rg):Rg:=o.getD ⟨0,0,0,0,0,false⟩
def aI3(o:bX Rg):tW o=.tuple #[.agg (j9 o).vs.toArray,.bool o.isSome]:=by cases o<;>rfl
def aLz(x:Int):x.fdiv (2^(min (4:Int).toNat 64))=x/16:=Ub _ bN
def Tb{c sp:Nat}{o:db}{out:cG}{d:Sl}{g:Int}{s:Kw.Sp}(t:fR s)(hp:ps[o.a.toNat]?=some (g,some (sp,s)))(h:Sep E (Vm A v r S ps (bD c (dc o v sp out d)::L)) w):
  Calls P CQ #[Pb c] w (cZ E (.tuple #[Iv (o.b/16),.agg (j9 (s.cB (o.b/16))).vs.toArray,.bool ((s.cB (o.b/16)).isSome&&decide (o.b≥0))]) (Vm A v r S ps (bD c (dc o v sp out d)::L))):=by
 obtain⟨y,k⟩:∃y,s.cB (o.b/16)=y:=⟨_,rfl⟩
 rw[k];apply awL;unfold OF qL qU qZ zH zR zg zm;refine Al.i h (λf B h1=>?_);have e:=Vm.eK h1;refine⟨_,rfl,o.b,Vm.cell e 1 rfl 2,bN,_,rfl,some ⟨sp,0,none⟩,Vm.cell e 1 rfl 6,?_⟩;dsimp only;rw[aLz];refine use (Qq (o.b/16) t (Vm.op hp e)) ?_;rintro _ w2 ⟨rfl,h2⟩;rw[k,aI3];have n:=Vm.out (Vm.bk hp h2);refine⟨_,_,_,_,_,_,_,rfl,Al.i n (λp2 C p=>ey _ p rfl (λD q=>Dr.i q (λu b=>?_)))⟩;have b:Sep E (bD p2 (j9 y).vs::bD f (Rg.vs ⟨0,0,0,0,0,false⟩)::Vm A v r S ps (bD c (dc o v sp out d)::L)) u:=b;refine gN b (i:=0) rfl ?_;cases z:y.isSome with
 |true=>
  have l:=Vm.hM [_,_] b;refine bT rfl ⟨_,rfl,o.b,Vm.cell l 2 rfl 2,ey _ b.swap rfl (λj a=>?_)⟩;have a:Sep E (bD f (j9 y).vs::bD p2 (j9 y).vs::Vm A v r S ps (bD c (dc o v sp out d)::L)) j:=a;have m:=Vm.hM [_,_] a;exact⟨o.b,Vm.cell m 2 rfl 2,rfl,gN a (i:=0) rfl ⟨rfl,a.tail.tail⟩⟩
 |false=>
  refine bF rfl (ey _ b.swap rfl (λj a=>?_));have a:Sep E (bD f (j9 y).vs::bD p2 (j9 y).vs::Vm A v r S ps (bD c (dc o v sp out d)::L)) j:=a;exact gN a (i:=0) rfl ⟨rfl,a.tail.tail⟩
def done(E:Env)(A:At)(v:Nat)(r:Sl)(c sp:Nat)(o:db)(L:cr)(n:Nat)(S:Cs)(q:Vs×cG)(x:bH)(w:bI):Prop:=
 x=.tuple #[]/\cw 66 S q.1.core/\∃(cN:PS) (a:Sl),dH cN/\cN.length=n/\plain cN=q.1.procs/\a.n=q.2.bE.length/\
  Sep E (Vm A v r q.1.core cN (bD c (dc o v sp q.2 a)::bw a 1 (bC q.2.bE)::L)) w
def Tc{V:Vs}{pid p:Int}{s:Kw.Sp}(h:V.space pid=some s):V.cq pid p=⟨V.core,V.procs.set pid.toNat (V.group pid,some (s.cq p))⟩:=by unfold Vs.cq;rw[h];rfl
def aLs{c sp:Nat}{o:db}{a:Sl}(Z:dH ps)(hn:r.n=ps.length)(hb:ps.length<=64)(aA:Kc.Inv S)(ao:S.bt.next+66<=16777216)(hk:a.n=0)(au:0<=o.a){g:Int}{s:Kw.Sp}(hp:ps[o.a.toNat]?=some (g,some (sp,s)))(h:Sep E (Vm A v r S ps (bD c (dc o v sp cG.zero a)::bw a 1 (bC [])::L)) w):
  Calls P yF #[Pb c] w (cC (done E A v r c sp o L ps.length S (Vs.load ⟨S,plain ps⟩ o.a s o.b))):=by
 have H:=Z _ _ _ _ hp;obtain⟨K,hK⟩:∃K,K=done E A v r c sp o L ps.length S (Vs.load ⟨S,plain ps⟩ o.a s o.b):=⟨_,rfl⟩
 rw[<- hK];have same:∀ {V':Vs} {out':cG} {w':bI},Vs.load ⟨S,plain ps⟩ o.a s o.b=(⟨S,plain ps⟩,out')->out'.bE= []->Sep E (Vm A v r S ps (bD c (dc o v sp out' a)::bw a 1 (bC [])::L)) w'->K aP4 w':=by
  intro V' out' w' ar ae h';rw[hK,ar];exact⟨rfl,.nil _ _,ps,a,Z,rfl,rfl,by dsimp only;rw[ae];exact hk,by dsimp only;rw[ae];exact h'⟩
 apply ax3;unfold Oq qF qL qU qZ qg qo qp zR zg zk zu zy;dsimp only;refine use (Tb H hp h) ?_;rintro _ aI ⟨rfl,h1⟩;obtain⟨y,R⟩:∃y,s.cB (o.b/16)=y:=⟨_,rfl⟩
 rw[R];refine⟨_,_,_,_,_,_,_,_,rfl,Al.i h1 (λp w2 h2=>ey _ h2 rfl (λaa C=>?_))⟩;have C:Sep E (bD p (j9 y).vs::Vm A v r S ps (bD c (dc o v sp cG.zero a)::bw a 1 (bC [])::L)) aa:=C;refine cy (λan=>⟨_,rfl,?_⟩) (λW=>?_)
 ·have D:=(Vm.e4 [_] (C.tail:Sep E (Vm A v r S ps ([bD c (dc o v sp cG.zero a)]++(bw a 1 (bC [])::L))) aa))
  refine St.i D (by show 7<10;decide) (λab l=>?_);have j:=Vm.hM [bD c (dc o v sp (cG.bad 14) a)] l;refine same (V':=⟨S,[]⟩) ?_ rfl j;unfold Vs.load;dsimp only;rw[R];cases y with
  |none=>rfl
  |some x=>
   have:¬ o.b≥0:=by simpa using an
   dsimp only;rw[eV]
 obtain⟨x,rfl⟩:∃x,y=some x:=by
  cases y with
  |none=>cases W
  |some x=>exact⟨x,rfl⟩
 have aE:0<=o.b:=by simpa using W
 have J:=tX H R;have aq:=Rg.ft J.2.2.1;have C:Sep E (bD p x.vs::Vm A v r S ps (bD c (dc o v sp cG.zero a)::bw a 1 (bC [])::L)) aa:=C;obtain⟨f,U⟩:∃f,s.entry (o.b/16)=f:=⟨_,rfl⟩
 have hl:Vs.load ⟨S,plain ps⟩ o.a s o.b=(if f.isNone/\x.kind=1 then(⟨S,plain ps⟩,.zero)else
   let r:=Vs.there ⟨S,plain ps⟩ o.a (o.b/16) s x .zero
   match r.2.2 with
   |none=>(r.1,r.2.1)
   |some id=>
    let g:=r.1.core.get id (o.b%16)
    ({r.1 with core:=g.1}.cq o.a (o.b/16), {r.2.1 with n:=g.2.1})):=by
  unfold Vs.load;dsimp only;rw[R];dsimp only;rw[cK,U];rfl
 have ag:=Vm.eK C;refine⟨λw'=>¬ (f.isNone/\x.kind=1)/\Sep E (bD p x.vs::Vm A v r S ps (bD c (dc o v sp cG.zero a)::bw a 1 (bC [])::L)) w',⟨_,rfl,some ⟨sp,0,none⟩,Vm.cell ag 1 rfl 6,use (wk (o.b/16) H (Vm.op hp ag)) ?_⟩,?_⟩
 ·rintro _ ab ⟨rfl,D⟩;have l:=Vm.out (Vm.bk hp D);obtain⟨aH,aB,aD,aC,aF,ap⟩:=Gl f;rw[U,ap];refine⟨_,_,_,_,_,rfl,Al.i l (λq aw j=>ey _ j rfl (λax d=>cy (λal=>ld d 1 rfl rfl (x:=x.kind) rfl (eC (λG=>?_) (λG=>⟨λe=>G e.2,d.tail⟩))) (λhe=>⟨λe=>?_,d.tail⟩)))⟩
  ·have am:f.isNone=true:=by cases f with
    |none=>rfl
    |some e=>cases al
   exact same (V':=⟨S,[]⟩) (by rw[hl,bK ⟨am,G⟩]) rfl d.tail.tail
  ·cases f with
   |none=>cases he
   |some z=>cases e.1
 rintro _ ab ⟨X,D⟩;rw[bJ X]at hl;have ai:Sep E (Vm A v r S ps (bD c (dc o v sp cG.zero a)::bw a 1 (bC cG.zero.bE)::L)) ab:=D.tail;refine gN D (i:=0) rfl (use (S9 (bL:=o.b/16) aq ⟨J.1,J.2.1⟩ Z hn hb aA ao hk rfl au hp ai) ?_);rintro z aw ⟨M,t,cN,b,u,hlen,m,F,B,l⟩;dsimp only at hl;generalize Vs.there ⟨S,plain ps⟩ o.a (o.b/16) s x .zero=Q at M t m F B l hl;cases Y:Q.2.2 with
 |none=>
  rw[Y]at M hl;subst M;refine⟨_,_,rfl,bT rfl ?_⟩;rw[hK,hl];exact⟨rfl,t,cN,b,u,hlen,m,F,l⟩
 |some id=>
  rw[Y]at M hl;subst M;obtain⟨af,s',k⟩:=B (by rw[Y];rfl);have aj:=t.inv aA bu;obtain⟨ad,ak⟩:∃ad:Nat,o.b=ad:=⟨o.b.toNat,bu⟩
  have hand:dy .i64 o.b 15=o.b%16:=by rw[ak,EE];omega
  have I:Vs.space ⟨(Q.1.core.get id (o.b%16)).1,Q.1.procs⟩ o.a=some s'/\Vs.group ⟨(Q.1.core.get id (o.b%16)).1,Q.1.procs⟩ o.a=af:=by
   have N:=iZ k;rw[m]at N;have:=iY (V:=⟨(Q.1.core.get id (o.b%16)).1,Q.1.procs⟩) N;rwa[show((o.a.toNat:Nat):Int)=o.a by omega]at this
  dsimp only at hl;rw[Tc I.1,I.2]at hl;refine⟨_,_,rfl,bF rfl (Dr.i l (λax j=>⟨_,rfl,some ⟨v,0,none⟩,Vm.cell j 0 rfl 5,_,rfl,some ⟨A.c,0,none⟩,j.cellAt 16 rfl 0,_,rfl,o.b,Vm.cell j 0 rfl 2,?_⟩))⟩;rw[hand];refine use (pw (id:=id) (at_:=o.b%16) aj.1 j) ?_;rintro _ ay ⟨rfl,d⟩;have d:Sep E (Vm A v r (Q.1.core.get id (o.b%16)).1 cN (bD c (dc o v sp Q.2.1 b)::bw b 1 (bC Q.2.1.bE)::L)) ay:=d;refine⟨_,_,rfl,_,rfl,some ⟨sp,0,none⟩,Vm.cell d 0 rfl 6,use (Qw (o.b/16) (u _ _ _ _ k) (Vm.op k d)) ?_⟩;rintro _ az ⟨⟨aG,rfl⟩,N⟩;have av:=Vm.sh k N;have ah:=Vm.e4 [_] (av:Sep E (Vm A v r (Q.1.core.get id (o.b%16)).1 _ ([bD c (dc o v sp Q.2.1 b)]++(bw b 1 (bC Q.2.1.bE)::L))) az);have O:i64.wrap (Q.1.core.get id (o.b%16)).2.1=(Q.1.core.get id (o.b%16)).2.1:=by
   have:0<=(Q.1.core.get id (o.b%16)).2.1/\(Q.1.core.get id (o.b%16)).2.1<256:=by
    unfold Cs.get;dsimp only;split;·exact⟨by show(0:Int)<=0;decide,by show(0:Int)<256;decide⟩
    ·have:=(By.gt Q.1.core.fr.cb.length Q.1.core.fr.dj (Q.1.core.here id).1 (o.b%16)).1.toNat_lt;dsimp only;omega
   exact cX bu bu
  refine⟨_,rfl,_,rfl,St.i ah (by show 8<10;decide) (λaJ T=>?_)⟩;rw[hK,hl];refine⟨rfl,t.trans (cw.get id (o.b%16)),cN.set o.a.toNat (af,some (sp,s'.cq (o.b/16))),b,u.set ((u _ _ _ _ k).cq _),by rw[eh];exact hlen,by rw[ra,m],F,?_⟩;refine Vm.hM [bD c (dc o v sp {Q.2.1 with n:=(Q.1.core.get id (o.b%16)).2.1} b)] ?_;rw[O]at T;exact T
def ky(o:db)(y:bX Rg):Int:=if o.c<0\/255<o.c then 1 else match y with
 |none=>14
 |some x=>if o.b<0 then 14 else if x.wr=false then 15 else 0
def Td{V:Vs}{pid:Int}{s:Kw.Sp}(o:db):V.store pid s o.b o.c=if ky o (s.cB (o.b/16))≠0 then(V,.bad (ky o (s.cB (o.b/16))))else
  let x:=j9 (s.cB (o.b/16));let r:=if x.kind=2 then V.there pid (o.b/16) s x .zero else V.own pid (o.b/16) s .zero
  match r.2.2 with
  |none=>(r.1,r.2.1)
  |some id=>
   let g:=r.1.core.put id (o.b%16) (UInt8.ofNat o.c.toNat)
   ({r.1 with core:=g.1}.cq pid (o.b/16),r.2.1):=by
 unfold Vs.store;dsimp only;generalize s.cB (o.b/16)=y;by_cases h1:o.c<0\/255<o.c
 ·have e:ky o y=1:=bK h1;simp only[e];rw[bK h1,bK bN]
 rw[bJ h1];have a:ky o y=match y with
  |none=>14
  |some x=>if o.b<0 then 14 else if x.wr=false then 15 else 0:=bJ h1
 cases y with
 |none=>
  have e:ky o none=14:=a;simp only[e];rw[bK bN]
 |some x=>
  have a:ky o (some x)=if o.b<0 then 14 else if x.wr=false then 15 else 0:=a
  by_cases h2:o.b<0
  ·rw[bK h2]at a;simp only[a];rw[bK h2,bK bN]
  rw[bJ h2]at a;by_cases b:x.wr=false
  ·rw[bK b]at a;simp only[a];rw[bJ h2,bK b,bK bN]
  rw[bJ b]at a;simp only[a];rw[bJ h2,bJ b,bJ (show ¬ ((0:Int)≠0) by decide)];rfl
def aKq{c sp:Nat}{o:db}{a:Sl}(Z:dH ps)(hn:r.n=ps.length)(hb:ps.length<=64)(aG:Kc.Inv S)(ah:S.bt.next+66<=16777216)(hk:a.n=0)(ap:0<=o.a){g:Int}{s:Kw.Sp}(hp:ps[o.a.toNat]?=some (g,some (sp,s)))(h:Sep E (Vm A v r S ps (bD c (dc o v sp cG.zero a)::bw a 1 (bC [])::L)) w):
  Calls P yG #[Pb c] w (cC (done E A v r c sp o L ps.length S (Vs.store ⟨S,plain ps⟩ o.a s o.b o.c))):=by
 have ai:=Z _ _ _ _ hp;obtain⟨K,hK⟩:∃K,K=done E A v r c sp o L ps.length S (Vs.store ⟨S,plain ps⟩ o.a s o.b o.c):=⟨_,rfl⟩
 have aj:=Td (V:=⟨S,plain ps⟩) (pid:=o.a) (s:=s) o;rw[aj]at hK;clear aj;obtain⟨y,ab⟩:∃y,s.cB (o.b/16)=y:=⟨_,rfl⟩
 rw[ab]at hK;rw[Td,ab,<- hK];apply awI;unfold Ot qC qD qF qL qQ qU qZ qb qg qh qy zg zk;dsimp only;refine Al.i h (λi aT h1=>?_);have aH:=lW [bD i [Pb c]] h1;refine⟨some ⟨c,0,none⟩,h1.cell 0,use (Tb ai hp aH) ?_⟩;rintro _ w2 ⟨rfl,h2⟩;rw[ab];have h2:=mj [bD i [Pb c]] h2;refine⟨_,_,_,_,_,_,_,_,rfl,Al.i h2 (λp2 aU aI=>Al.i aI (λn aV aJ=>St.i aJ.swap (by show 0<1;decide) (λaW aK=>ey _ aK.swap rfl (λaE al=>?_))))⟩;have al:Sep E (bD n (j9 y).vs::bD p2 [Iv (o.b/16)]::bD i [Pb c]::Vm A v r S ps (bD c (dc o v sp cG.zero a)::bw a 1 (bC [])::L)) aE:=al;have m:=lW [bD n (j9 y).vs,bD p2 [Iv (o.b/16)],bD i [Pb c]] al;obtain⟨F,aS⟩:∃F,F= [bD n (j9 y).vs,bD p2 [Iv (o.b/16)],bD i [Pb c]]:=⟨_,rfl⟩
 have C:∀ {w:bI} (e:Int),Sep E (Vm A v r S ps (bD c (dc o v sp cG.zero a)::bw a 1 (bC [])::([bD n (j9 y).vs,bD p2 [Iv (o.b/16)],bD i [Pb c]]++L))) w->∀f:bi9,(∀w',Sep E (Vm A v r S ps (bD c (dc o v sp (cG.bad e) a)::bw a 1 (bC [])::([bD n (j9 y).vs,bD p2 [Iv (o.b/16)],bD i [Pb c]]++L))) w'->f w')->St ⟨c,7,none⟩ (Iv e) f w:=by
  intro w e aL f k;refine St.i (Vm.e4 [_] aL) (by show 7<10;decide) (λw' h'=>k w' (Vm.hM [bD c (dc o v sp (cG.bad e) a)] h'))
 refine⟨λw'=>Sep E (Vm A v r S ps (bD c (dc o v sp (cG.bad (ky o y)) a)::bw a 1 (bC [])::([bD n (j9 y).vs,bD p2 [Iv (o.b/16)],bD i [Pb c]]++L))) w',
  ⟨λb w'=>b=decide (o.c<0\/255<o.c)/\w'=aE,⟨some ⟨c,0,none⟩,Vm.cell m 4 rfl 0,_,rfl,o.c,Vm.cell m 0 rfl 3,cU (λq=>⟨(dK (.inl q)).symm,rfl⟩) (λq=>⟨some ⟨c,0,none⟩,Vm.cell m 4 rfl 0,_,rfl,o.c,Vm.cell m 0 rfl 3,?_,rfl⟩)⟩,?_⟩,?_⟩
 ·exact sF.2 ⟨λe=>.inr e,λe=>e.elim (λe=>bu) id⟩
 ·rintro _ _ _ ⟨rfl,rfl⟩;refine cy (λq=>⟨some ⟨c,0,none⟩,Vm.cell m 4 rfl 0,_,rfl,C 1 m _ (λw' h'=>?_)⟩) (λq=>cy (λaz=>⟨some ⟨c,0,none⟩,Vm.cell m 4 rfl 0,_,rfl,C 14 m _ (λw' h'=>?_)⟩) (λH=>⟨(j9 y).wr,Vm.cell m 2 rfl 5,cy (λX=>⟨some ⟨c,0,none⟩,Vm.cell m 4 rfl 0,_,rfl,C 15 m _ (λw' h'=>?_)⟩) (λX=>?_)⟩))
  ·have e:ky o y=1:=by unfold ky;rw[bK (kA q)]
   rw[e];exact h'
  ·have e:ky o y=14:=by
    unfold ky;rw[bJ (kj q)];cases y with
    |none=>rfl
    |some x=>
     have:¬ o.b≥0:=by simpa using az
     dsimp only;rw[eV]
   rw[e];exact h'
  ·obtain⟨x,rfl⟩:∃x,y=some x:=by cases y with
    |none=>cases H
    |some x=>exact⟨x,rfl⟩
   have af:0<=o.b:=by simpa using H
   have hw:x.wr=false:=by simpa[j9]using X
   have e:ky o (some x)=15:=by unfold ky;rw[bJ (kj q)];dsimp only;rw[cK,bK hw]
   rw[e];exact h'
  ·obtain⟨x,rfl⟩:∃x,y=some x:=by cases y with
    |none=>cases H
    |some x=>exact⟨x,rfl⟩
   have af:0<=o.b:=by simpa using H
   have hw:¬ x.wr=false:=by
    have:x.wr=true:=by simpa[j9]using X
    rw[this];decide
   have e:ky o (some x)=0:=by unfold ky;rw[bJ (kj q)];dsimp only;rw[cK,bJ hw]
   rw[e];exact m
 rintro _ ae d;refine⟨some ⟨c,0,none⟩,Vm.cell d 4 rfl 0,_,rfl,ky o y,Vm.cell d 0 rfl 7,g0 (λay=>?_) (λheq=>?_)⟩
 ·rw[bK ay]at hK;rw[hK];exact⟨rfl,.nil _ _,ps,a,Z,rfl,rfl,hk,(mj (out:=cG.bad (ky o y)) [_,_,_] d).right⟩
 rw[cK]at hK;have Y:∃x,y=some x/\0<=o.b/\(0<=o.c/\o.c<=255):=by
  unfold ky at heq;split at heq;·omega
  ·next q=>
   cases y with
   |none=>cases heq
   |some x=>
    dsimp only at heq;split at heq;·omega
    ·exact⟨x,rfl,bu,bu⟩
 rw[heq]at d;obtain⟨x,rfl,af,aN⟩:=Y;have d:Sep E (Vm A v r S ps (bD c (dc o v sp cG.zero a)::bw a 1 (bC cG.zero.bE)::([bD n x.vs,bD p2 [Iv (o.b/16)],bD i [Pb c]]++L))) ae:=d;have W:=tX ai ab;have aC:=Rg.ft W.2.2.1;have aA:j9 (some x)=x:=rfl;rw[aA]at hK;dsimp only at hK;obtain⟨Q,M⟩:∃Q,(if x.kind=2 then Vs.there ⟨S,plain ps⟩ o.a (o.b/16) s x .zero else Vs.own ⟨S,plain ps⟩ o.a (o.b/16) s .zero)=Q:=⟨_,rfl⟩
 rw[M]at hK;refine⟨λfv w'=>fe P fv #[] w' (cC (lk E A v r c sp o ([bD n x.vs,bD p2 [Iv (o.b/16)],bD i [Pb c]]++L) ps.length S Q)),⟨x.kind,Vm.cell d 2 rfl 2,eC (λO=>⟨_,_,rfl,by kernel_rfl,?_⟩) (λO=>⟨_,_,rfl,by kernel_rfl,?_⟩)⟩,?_⟩
 ·show Calls P JD #[Pb i,Pb p2,Pb n] ae _;rw[bK O]at M;apply atj;unfold OL qD qb qp zR;have p:∀j,ae.cell? ⟨n,j,none⟩=x.vs[j]? :=λj=>Vm.cell d 2 rfl j;refine⟨some ⟨c,0,none⟩,Vm.cell d 4 rfl 0,o.b/16,Vm.cell d 3 rfl 0,_,p 0,_,p 1,_,p 2,_,p 3,_,p 4,_,p 5,use (S9 (bL:=o.b/16) aC ⟨W.1,W.2.1⟩ Z hn hb aG ah hk rfl ap hp d) ?_⟩;rintro z aF B;obtain⟨aM,b,rfl⟩:=B.dW;rw[M]at B;exact⟨_,_,rfl,B⟩
 ·show Calls P JB #[Pb i,Pb p2] ae _;rw[bJ O]at M;apply ati;unfold OI qD qb qp;refine⟨some ⟨c,0,none⟩,Vm.cell d 4 rfl 0,o.b/16,Vm.cell d 3 rfl 0,use (aLy (bL:=o.b/16) Z hn hb aG ah hk rfl ap hp d) ?_⟩;rintro z aF B;obtain⟨aM,b,rfl⟩:=B.dW;rw[M]at B;exact⟨_,_,rfl,B⟩
 rintro _ fv aF G;refine pn G ?_;rintro z aX ⟨ad,T,cN,J,I,hlen,R,ag,aa,av⟩;clear M G;cases am:Q.2.2 with
 |none=>
  rw[am]at ad hK;subst ad;refine⟨_,_,rfl,bF rfl ?_⟩;rw[hK];exact⟨rfl,T,cN,J,I,hlen,R,ag,(mj [_,_,_] av).right⟩
 |some id=>
  rw[am]at ad hK;subst ad;obtain⟨ao,s',u⟩:=aa (by rw[am];rfl);have aw:=T.inv aG bu;obtain⟨an,ax⟩:∃an:Nat,o.b=an:=⟨o.b.toNat,bu⟩
  have hand:dy .i64 o.b 15=o.b%16:=by rw[ax,EE];omega
  obtain⟨t,ak⟩:∃t:UInt8,UInt8.ofNat o.c.toNat=t:=⟨_,rfl⟩
  have aB:IntKind.u8.wrap o.c=(t.toNat:Int):=by
   rw[<- ak,UInt8.toNat_ofNat'];unfold IntKind.wrap;simp only[IntKind.signed,IntKind.bits,xD];rw[bJ bN];omega
  have U:Vs.space ⟨(Q.1.core.put id (o.b%16) t).1,Q.1.procs⟩ o.a=some s'/\Vs.group ⟨(Q.1.core.put id (o.b%16) t).1,Q.1.procs⟩ o.a=ao:=by
   have au:=iZ u;rw[R]at au;have:=iY (V:=⟨(Q.1.core.put id (o.b%16) t).1,Q.1.procs⟩) au;rwa[show((o.a.toNat:Nat):Int)=o.a by omega]at this
  dsimp only at hK;rw[ak,Tc U.1,U.2]at hK;refine⟨_,_,rfl,bT rfl (Dr.i av (λaO l=>⟨some ⟨c,0,none⟩,Vm.cell l 4 rfl 0,_,rfl,some ⟨v,0,none⟩,Vm.cell l 0 rfl 5,_,rfl,some ⟨A.c,0,none⟩,l.cellAt 16 rfl 0,some ⟨c,0,none⟩,Vm.cell l 4 rfl 0,_,rfl,o.b,Vm.cell l 0 rfl 2,some ⟨c,0,none⟩,Vm.cell l 4 rfl 0,_,rfl,o.c,Vm.cell l 0 rfl 3,?_⟩))⟩;rw[hand,aB];refine use (uc (id:=id) (at_:=o.b%16) (x:=t) aw.1 l) ?_;rintro _ aD ⟨rfl,N⟩;have N:Sep E (Vm A v r (Q.1.core.put id (o.b%16) t).1 cN (bD c (dc o v sp Q.2.1 J)::bw J 1 (bC Q.2.1.bE)::([bD n x.vs,bD p2 [Iv (o.b/16)],bD i [Pb c]]++L))) aD:=N;refine⟨_,rfl,Dr.i N (λaP D=>⟨some ⟨c,0,none⟩,Vm.cell D 4 rfl 0,_,rfl,some ⟨sp,0,none⟩,Vm.cell D 0 rfl 6,o.b/16,Vm.cell D 3 rfl 0,use (Qw (o.b/16) (I _ _ _ _ u) (Vm.op u D)) ?_⟩)⟩;rintro _ aQ ⟨⟨aR,rfl⟩,aq⟩;have ar:=Vm.sh u aq;refine⟨_,rfl,?_⟩;rw[hK];exact⟨rfl,T.trans (cw.put id (o.b%16) t),cN.set o.a.toNat (ao,some (sp,s'.cq (o.b/16))),J,I.set ((I _ _ _ _ u).cq _),by rw[eh];exact hlen,by rw[ra,R],ag,(mj [_,_,_] ar).right⟩
def Vm.sq{c sp:Nat}{o:db}{a:Sl}{out out':cG}{j:Nat}{x:bH}{f:bi9}(b:j<10)(he:(dc o v sp out a).set j x=dc o v sp out' a)(h:Sep E (Vm A v r S ps (bD c (dc o v sp out a)::L)) w)(k:∀w',Sep E (Vm A v r S ps (bD c (dc o v sp out' a)::L)) w'->f w'):St ⟨c,j,none⟩ x f w:=
 St.i (Vm.e4 [_] h) b (λw' h'=>k w' (Vm.hM [bD c (dc o v sp out' a)] (he▸h')))
def Te(n:Int)(w:bI):Calls P CW #[Iv n] w (cC λx w'=>x=.bool (decide (0<=n/\n<=65536))/\w'=w):=by
 apply ath;refine ij (λa=>⟨?_,rfl⟩) (λa=>⟨?_,rfl⟩);·exact eO Value.bool (sF.2 ⟨λe=>⟨a,e⟩,λe=>e.2⟩)
 ·exact eO Value.bool (dq λe=>bu).symm
def Gm{c sp:Nat}{o:db}{g:Sl}(h:Sep E (Vm A v r S ps (bD c (dc o v sp cG.zero g)::L)) w):
  Calls P yM #[Pb c] w (cZ E (.bool (decide (k8 o.b o.c))) (Vm A v r S ps (bD c (dc o v sp (if k8 o.b o.c then cG.zero else cG.bad 1) g)::L))):=by
 apply awH;unfold OA qF qL;refine⟨_,rfl,o.b,Vm.cell h 0 rfl 2,use (Te o.b w) ?_⟩;rintro _ i ⟨rfl,rfl⟩;refine⟨_,rfl,cy (λa=>⟨_,rfl,?_⟩) (λd=>⟨_,rfl,o.c,Vm.cell h 0 rfl 3,use (Te o.c _) ?_⟩)⟩
 ·have hn:¬ k8 o.b o.c:=λe=>by
   have:¬ (0<=o.b/\o.b<=65536):=kj (by simpa only[ir]using a);exact this e.1
  rw[bJ hn,dq hn];exact Vm.sq (j:=7) (out:=cG.zero) (out':=cG.bad 1) bN rfl h (λw' h'=>⟨rfl,h'⟩)
 ·rintro _ w2 ⟨rfl,rfl⟩;have hb:0<=o.b/\o.b<=65536:=by simpa using d
  refine⟨_,rfl,cy (λa=>⟨_,rfl,?_⟩) (λb=>?_)⟩
  ·have hn:¬ k8 o.b o.c:=λe=>by
    have:¬ (0<=o.c/\o.c<=65536):=kj (by simpa only[ir]using a);exact this e.2
   rw[bJ hn,dq hn];exact Vm.sq (j:=7) (out:=cG.zero) (out':=cG.bad 1) bN rfl h (λw' h'=>⟨rfl,h'⟩)
  ·have f:k8 o.b o.c:=⟨hb,by simpa using b⟩
   rw[bK f,dK f];exact⟨rfl,h⟩
def Tf{g:Int}{i:Nat}{pid:Int}{q:Nat×Kw.Sp}(b:0<=pid)(a:pid.toNat=i)(hp:ps[i]?=some (g,some q))(s:bX Kw.Sp):Vs.fQ ⟨S,plain ps⟩ pid s=⟨S,(plain ps).set i (g,s)⟩:=by
 unfold Vs.fQ;have:=(iY (V:=⟨S,plain ps⟩) (iZ hp)).2;rw[show(i:Int)=pid by omega]at this;rw[this,a]
def Tg{c sp:Nat}{o:db}{a:Sl}{x:Rg}(i:dH ps)(hk:a.n=0)(n:0<=o.a){g:Int}{s:Kw.Sp}(hp:ps[o.a.toNat]?=some (g,some (sp,s)))(h:Sep E (Vm A v r S ps (bD c (dc o v sp cG.zero a)::bw a 1 (bC [])::L)) w){F:bi9}(k:∀w',done E A v r c sp o L ps.length S (Vs.map ⟨S,plain ps⟩ o.a s x) (.tuple #[]) w'->F w'):
  Calls P yN #[Pb sp,.agg x.vs.toArray] w λf l=>∃d:Int,f=.returned (Iv d)/\NN (some ⟨c,0,none⟩) λe=>St ((e.add 7).add 0) (Iv d) (λm=>F m) l:=by
 have b:=i _ _ _ _ hp;refine use (aKn x b (Vm.op hp h)) ?_;rintro _ q ⟨rfl,h1⟩;have h2:=Vm.sh hp h1;refine⟨_,rfl,_,rfl,Vm.sq (j:=7) (out:=cG.zero) (out':=cG.bad (s.map x).2) bN rfl h2 (λw2 p=>k w2 ?_)⟩;unfold Vs.map;rw[Tf n rfl hp];exact⟨rfl,.nil _ _,_,a,i.set (b.map x),by rw[eh],ra,hk,p⟩
def aIr{c sp:Nat}{o:db}{b:Sl}(d:dH ps)(hk:b.n=0)(i:0<=o.a){g:Int}{s:Kw.Sp}(hp:ps[o.a.toNat]?=some (g,some (sp,s)))(h:Sep E (Vm A v r S ps (bD c (dc o v sp cG.zero b)::bw b 1 (bC [])::L)) w):
  Calls P yC #[Pb c] w (cC (done E A v r c sp o L ps.length S (if k8 o.b o.c then Vs.map ⟨S,plain ps⟩ o.a s ⟨o.c,o.c+o.b,1,0,0,true⟩else(⟨S,plain ps⟩,.bad 1)))):=by
 apply avc;unfold Om qF qL qQ qZ;dsimp only;refine use (Gm h) ?_;rintro _ k ⟨rfl,h1⟩;by_cases a:k8 o.b o.c
 ·rw[bK a]at h1 ⊢;obtain⟨⟨b0,b1⟩,e,f⟩:=a;refine⟨_,rfl,bT (dK ⟨⟨b0,b1⟩,e,f⟩) (Dr.i h1 (λw2 h2=>⟨_,rfl,some ⟨sp,0,none⟩,Vm.cell h2 0 rfl 6,_,rfl,o.c,Vm.cell h2 0 rfl 3,_,rfl,o.c,Vm.cell h2 0 rfl 3,_,rfl,o.b,Vm.cell h2 0 rfl 2,?_⟩))⟩;rw[cX (n:=o.c+o.b) bu bu];exact Tg (x:=⟨o.c,o.c+o.b,1,0,0,true⟩) d hk i hp h2 (λ_ j=>j)
 ·rw[bJ a]at h1 ⊢;exact⟨_,rfl,bF (dq a) ⟨rfl,.nil _ _,ps,b,d,rfl,rfl,hk,h1⟩⟩
def aF7{c sp:Nat}{o:db}{a:Sl}(m:dH ps)(hk:a.n=0)(B:0<=o.a){g:Int}{s:Kw.Sp}(hp:ps[o.a.toNat]?=some (g,some (sp,s)))(h:Sep E (Vm A v r S ps (bD c (dc o v sp cG.zero a)::bw a 1 (bC [])::L)) w):
  Calls P yD #[Pb c] w (cC (done E A v r c sp o L ps.length S (if k8 o.b o.c then
   (if o.d<0\/(S.files.bU.length:Int)<=o.d\/nL S.files o.d<o.b then(⟨S,plain ps⟩,.bad 1)else Vs.map ⟨S,plain ps⟩ o.a s ⟨o.c,o.c+o.b,2,o.d,0,true⟩)else(⟨S,plain ps⟩,.bad 1)))):=by
 apply atg;unfold On qF qL qQ qZ qg zH;refine use (Gm h) ?_;rintro _ G ⟨rfl,h1⟩;by_cases d:k8 o.b o.c
 ·rw[bK d]at h1 ⊢;obtain⟨⟨b0,b1⟩,y,z⟩:=d;have bad:∀ {w:bI},(o.d<0\/(S.files.bU.length:Int)<=o.d\/nL S.files o.d<o.b)->Sep E (Vm A v r S ps (bD c (dc o v sp cG.zero a)::bw a 1 (bC [])::L)) w->∀f:bi9,(∀w',done E A v r c sp o L ps.length S (if o.d<0\/(S.files.bU.length:Int)<=o.d\/nL S.files o.d<o.b then(⟨S,plain ps⟩,cG.bad 1)else Vs.map ⟨S,plain ps⟩ o.a s ⟨o.c,o.c+o.b,2,o.d,0,true⟩) (.tuple #[]) w'->f w')->St ⟨c,7,none⟩ (Iv 1) f w:=by
   intro w C h' f D;refine Vm.sq (j:=7) (out:=cG.zero) (out':=cG.bad 1) bN rfl h' (λw' p=>D w' ?_);rw[bK C];exact⟨rfl,.nil _ _,ps,a,m,rfl,rfl,hk,p⟩
  refine⟨_,rfl,bF (by rw[dK ⟨⟨b0,b1⟩,y,z⟩];rfl) ⟨λw'=>¬ (o.d<0\/(S.files.bU.length:Int)<=o.d\/nL S.files o.d<o.b)/\Sep E (Vm A v r S ps (bD c (dc o v sp cG.zero a)::bw a 1 (bC [])::L)) w',Dr.i h1 (λw2 h2=>⟨_,rfl,o.d,Vm.cell h2 0 rfl 4,cU (λi=>⟨_,rfl,bad (.inl i) h2 _ (λ_ q=>q)⟩) (λi=>⟨_,rfl,o.d,Vm.cell h2 0 rfl 4,_,rfl,some ⟨v,0,none⟩,Vm.cell h2 0 rfl 5,_,rfl,some ⟨A.c,0,none⟩,h2.cellAt 16 rfl 0,use (aIh h2) ?_⟩)⟩),?_⟩⟩
  ·rintro _ u ⟨rfl,b⟩;have b:Sep E (Vm A v r S ps (bD c (dc o v sp cG.zero a)::bw a 1 (bC [])::L)) u:=b;refine⟨_,rfl,o.d,Vm.cell b 0 rfl 4,rfl,hq (λk=>⟨_,rfl,bad (.inr (.inl k)) b _ (λ_ q=>q)⟩) (λk=>⟨_,rfl,o.b,Vm.cell b 0 rfl 2,_,rfl,some ⟨v,0,none⟩,Vm.cell b 0 rfl 5,_,rfl,some ⟨A.c,0,none⟩,b.cellAt 16 rfl 0,_,rfl,o.d,Vm.cell b 0 rfl 4,use (aEC o.d b) ?_⟩)⟩;rintro _ F ⟨rfl,e⟩;have e:Sep E (Vm A v r S ps (bD c (dc o v sp cG.zero a)::bw a 1 (bC [])::L)) F:=e;exact⟨_,rfl,o.b,Vm.cell e 0 rfl 2,rfl,gv (λl=>⟨_,rfl,bad (.inr (.inr l)) e _ (λ_ q=>q)⟩) (λl=>⟨bu,e⟩)⟩
  rintro _ u ⟨t,b⟩;rw[bJ t];refine Dr.i b (λw2 h2=>⟨_,rfl,some ⟨sp,0,none⟩,Vm.cell h2 0 rfl 6,_,rfl,o.c,Vm.cell h2 0 rfl 3,_,rfl,o.c,Vm.cell h2 0 rfl 3,_,rfl,o.b,Vm.cell h2 0 rfl 2,_,rfl,o.d,Vm.cell h2 0 rfl 4,?_⟩);rw[cX (n:=o.c+o.b) bu bu];exact Tg (x:=⟨o.c,o.c+o.b,2,o.d,0,true⟩) m hk B hp h2 (λ_ i=>i)
 ·rw[bJ d]at h1 ⊢;exact⟨_,rfl,bT (by rw[dq d];rfl) ⟨rfl,.nil _ _,ps,a,m,rfl,rfl,hk,h1⟩⟩
def aKs{c sp:Nat}{o:db}{d:Sl}(i:dH ps)(B:Kc.Inv S)(hk:d.n=0)(t:0<=o.a){g:Int}{s:Kw.Sp}(hp:ps[o.a.toNat]?=some (g,some (sp,s)))(h:Sep E (Vm A v r S ps (bD c (dc o v sp cG.zero d)::bw d 1 (bC [])::L)) w):
  Calls P yE #[Pb c] w (cC (done E A v r c sp o L ps.length S (if k8 o.b o.c then
   (let q:=s.cut o.c (o.c+o.b);let V1:=Vs.fQ ⟨S,plain ps⟩ o.a (some q.1);({V1 with core:=ep q.2 V1.core},⟨0,q.2.length,[]⟩))else(⟨S,plain ps⟩,.bad 1)))):=by
 have f:=i _ _ _ _ hp;apply awK;unfold Oo qE qF qJ qL qZ;dsimp only;refine use (Gm h) ?_;rintro _ C ⟨rfl,h1⟩;by_cases e:k8 o.b o.c
 ·rw[bK e]at h1 ⊢;obtain⟨⟨b0,b1⟩,k,l⟩:=e;refine⟨_,rfl,bT (dK ⟨⟨b0,b1⟩,k,l⟩) (Dr.i h1 (λw2 h2=>⟨_,rfl,some ⟨sp,0,none⟩,Vm.cell h2 0 rfl 6,_,rfl,o.c,Vm.cell h2 0 rfl 3,_,rfl,o.c,Vm.cell h2 0 rfl 3,_,rfl,o.b,Vm.cell h2 0 rfl 2,?_⟩))⟩;rw[cX (n:=o.c+o.b) bu bu];refine use (Qx (a:=o.c) (b:=o.c+o.b) ⟨k,l⟩ bu f (Vm.op hp h2)) ?_;rintro _ D ⟨q,rfl,p,u⟩;have m:=Vm.Ge hp u;have hlen:=Ai f o.c (o.c+o.b);have z:∀S',Ints E (Vm A v r S' (ps.set o.a.toNat (g,some (sp,(s.cut o.c (o.c+o.b)).1))) (bw q 1 (bC (s.cut o.c (o.c+o.b)).2)::bD c (dc o v sp cG.zero d)::bw d 1 (bC [])::L)) q (s.cut o.c (o.c+o.b)).2:=λS'=>Vm.ints p;refine⟨q,rfl,_,rfl,some ⟨v,0,none⟩,Vm.cell m 1 rfl 5,use (SS z (by show(s.ids _ _).length<_;omega) B m) ?_⟩;rintro _ F ⟨rfl,x⟩;refine⟨rfl,_,rfl,Vm.sq (j:=8) (out:=cG.zero) (out':=⟨0,((s.cut o.c (o.c+o.b)).2.length:Nat),[]⟩) bN (by rw[p];rfl) (Vm.out x).tail (λG y=>?_)⟩;try dsimp only
  rw[Tf t rfl hp];exact⟨rfl,(wV _ _).up bu,_,d,i.set (f.cut _ _),by rw[eh],ra,hk,y⟩
 ·rw[bJ e]at h1 ⊢;exact⟨_,rfl,bF (dq e) ⟨rfl,.nil _ _,ps,d,i,rfl,rfl,hk,h1⟩⟩
def aKg{c sp:Nat}{o:db}{a:Sl}(f:dH ps)(hn:r.n=ps.length)(j:Kc.Inv S)(hk:a.n=0)(k:0<=o.a){g:Int}{s:Kw.Sp}(hp:ps[o.a.toNat]?=some (g,some (sp,s)))(h:Sep E (Vm A v r S ps (bD c (dc o v sp cG.zero a)::bw a 1 (bC [])::L)) w):
  Calls P yB #[Pb c] w (cC (done E A v r c sp o L ps.length S (Vs.exit ⟨S,plain ps⟩ o.a,.zero))):=by
 have i:=f _ _ _ _ hp;apply ax0;unfold Ol qE qL qZ;refine Dr.i h (λl h1=>⟨_,rfl,some ⟨v,0,none⟩,Vm.cell h1 0 rfl 5,_,rfl,o.a,Vm.cell h1 0 rfl 1,?_⟩);have d:o.a=((o.a.toNat:Nat):Int):=by omega
 have b:Vs.space ⟨S,plain ps⟩ o.a=some s/\Vs.group ⟨S,plain ps⟩ o.a=g:=by
  have:=iY (V:=⟨S,plain ps⟩) (iZ hp);rwa[<- d]at this
 rw[wW b.1,b.2];have e:=SU hp i hn j h1;rw[<- d]at e;refine use e ?_;rintro _ w2 ⟨rfl,h2⟩;exact⟨rfl,rfl,(wV _ _).up bu,_,a,f.less (ja.die hp),by rw[eh],SY,hk,h2⟩
def aIo{c sp:Nat}{o:db}{a:Sl}(k:dH ps)(hn:r.n=ps.length)(hk:a.n=0)(p:0<=o.a){g:Int}{s:Kw.Sp}(hp:ps[o.a.toNat]?=some (g,some (sp,s)))(h:Sep E (Vm A v r S ps (bD c (dc o v sp cG.zero a)::bw a 1 (bC [])::L)) w):
  Calls P yA #[Pb c] w (cC (done E A v r c sp o L ps.length S (if S.live o.b then(⟨S,(plain ps).set o.a.toNat (o.b,some s)⟩,.zero)else(⟨S,plain ps⟩,.bad 2)))):=by
 have n:=(c2.1 hp).1;apply avb;unfold Oj qF qK qL qR qW qZ zH;refine Dr.i h (λt h1=>⟨_,rfl,some ⟨v,0,none⟩,Vm.cell h1 0 rfl 5,_,rfl,some ⟨A.c,0,none⟩,h1.cellAt 16 rfl 0,_,rfl,o.b,Vm.cell h1 0 rfl 2,use (wN h1) ?_⟩);rintro _ w2 ⟨rfl,h2⟩;have h2:Sep E (Vm A v r S ps (bD c (dc o v sp cG.zero a)::bw a 1 (bC [])::L)) w2:=h2;refine⟨_,rfl,o.b,Vm.cell h2 0 rfl 2,rfl,use (kQ h2 (q:=1) rfl) ?_⟩;rintro _ _ ⟨rfl,rfl⟩;have hl:S.live o.b=dB S.tree o.b:=rfl;rw[hl];refine⟨_,rfl,cy (λi=>⟨_,rfl,?_⟩) (λd=>Dr.i h2 (λu f=>⟨_,rfl,some ⟨v,0,none⟩,Vm.cell f 0 rfl 5,_,rfl,r,f.cellAt 16 rfl 1,_,rfl,o.a,Vm.cell f 0 rfl 1,_,rfl,o.b,Vm.cell f 0 rfl 2,Vm.el hn f (show o.a=((o.a.toNat:Nat):Int) by omega) hp (λb hb _=>?_)⟩))⟩
 ·have i:dB S.tree o.b=false:=by simpa using i
  rw[i,bJ bN];exact Vm.sq (j:=7) (out:=cG.zero) (out':=cG.bad 2) bN rfl h2 (λw' h'=>⟨rfl,.nil _ _,ps,a,k,rfl,rfl,hk,h'⟩)
 ·have d:dB S.tree o.b=true:=by simpa using d
  rw[d,bK rfl,cj];refine tG sn (a':=(o.b,some (sp,s))) (f.fr 17 rfl) hb hp bN rfl (λx l=>⟨rfl,.nil _ _,ps.set o.a.toNat (o.b,some (sp,s)),a,k.set (k _ _ _ _ hp),by rw[eh],ra,hk,?_⟩);have m:=Sep.put (L:=Vm A v r S ps (bD c (dc o v sp cG.zero a)::bw a 1 (bC [])::L)) (q:=17) (A':=bw r 2 (bO gy (ps.set o.a.toNat (o.b,some (sp,s))))) rfl l;have e:(ps.set o.a.toNat (o.b,some (sp,s))).map gR=ps.map gR:=by
   rw[hT];exact fJ (by rw[ez,hp];rfl)
  unfold Vm;rw[e];exact m
def Th:hG P Wo=some (16,2,[Iv 0,.pointer none]):=by kernel_rfl
def Ti{g:Int}{sp:Nat}{s:Kw.Sp}(hn:r.n=ps.length)(hb:ps.length<=64)(h:Sep E (Vm A v r S ps (ei sp s::L)) w):
  Calls P CM #[Pb v,Iv g,Pb sp] w
   (cC λx w'=>x=.agg #[Iv 0,Iv (ps.length:Nat),aP8]/\∃r':Sl,r'.n=(ps++[(g,some (sp,s))]).length/\Sep E (Vm A v r' S (ps++[(g,some (sp,s))]) L) w'):=by
 apply aB2;unfold Ox qK qU zI zW;refine Al.i h (λj q h1=>⟨_,rfl,r,h1.cellAt 17 rfl 1,Al.i h1 (λk w2 h2=>?_)⟩);have h2:Sep E (bD k [Iv g,Pb sp]::bD j [Iv 0,Iv 0,aP8]::Vm A v r S ps (ei sp s::L)) w2:=h2;have o:=Src.bD (n:=1) (c:=1) h2 (i:=0) rfl Th rfl (λu hu=>by simp only[eH,uN,uT]at hu;rcases hu with rfl|rfl<;>rfl);refine bw.append (h2.fr 19 rfl) Th rfl o bu (by rw[hn];omega) (λr' t m l=>⟨_,rfl,?_⟩);have e:bO gy ps++[Iv g,Pb sp]=bO gy (ps++[(g,some (sp,s))]):=by rw[nm,ph];rfl
 rw[e]at l;refine St.i (l.fr 19 rfl) (by show 1<2;decide) (λp f=>?_);have f:Sep E ([bD v [Pb A.c,.slice r'.p r'.n r'.c],bw r' 2 (bO gy (ps++[(g,some (sp,s))]))]++(([bD k [Iv g,Pb sp],bD j [Iv 0,Iv 0,aP8]]++ch A S)++(ps.map gR++ei sp s::L))) p:=f;have a:=f.perm (mr _ _ _);have em:ps.map gR++ei sp s::L=(ps++[(g,some (sp,s))]).map gR++L:=by rw[lu,dp];rfl
 rw[em]at a;have a:Sep E (bD k [Iv g,Pb sp]::bD j [Iv 0,Iv 0,aP8]::Vm A v r' S (ps++[(g,some (sp,s))]) L) p:=a;have d:r'.n=(ps++[(g,some (sp,s))]).length:=by rw[m,hn,df];rfl
 refine⟨_,rfl,r',a.cellAt 18 rfl 1,ey _ a.swap rfl (λy b=>?_)⟩;refine⟨0,b.cell 0,(ps.length:Int),?_,⟨none,0,0⟩,b.cell 2,rfl,r',d,b.tail.tail⟩;have hl:((r'.n:Nat):Int)-1=(ps.length:Int):=by rw[d,df];simp
 have:=b.cell 1;rw[hl,cX bu bu]at this;exact this
def AL(E:Env)(A:At)(v c sp:Nat)(o:db)(L:cr)(S:Cs)(q:Vs×cG)(x:bH)(w:bI):Prop:=
 x=.tuple #[]/\cw 66 S q.1.core/\∃(r':Sl) (cN:PS) (a:Sl),dH cN/\r'.n=cN.length/\cN.length<=64/\plain cN=q.1.procs/\a.n=q.2.bE.length/\
  Sep E (Vm A v r' q.1.core cN (bD c (dc o v sp q.2 a)::bw a 1 (bC q.2.bE)::L)) w
def done.toC{c sp n:Nat}{o:db}{q:Vs×cG}{x:bH}(hn:r.n=n)(hb:n<=64)(h:done E A v r c sp o L n S q x w):AL E A v c sp o L S q x w:=by
 obtain⟨h1,h2,cN,b,d,a,e,f,g⟩:=h;exact⟨h1,h2,r,cN,b,d,by rw[a];exact hn,by rw[a];exact hb,e,f,g⟩
def aLn{c sp:Nat}{o:db}{d:Sl}(D:dH ps)(hn:r.n=ps.length)(hb:ps.length<=64)(aa:Kc.Inv S)(hk:d.n=0)(ab:0<=o.a){g:Int}{s:Kw.Sp}(hp:ps[o.a.toNat]?=some (g,some (sp,s)))(h:Sep E (Vm A v r S ps (bD c (dc o v sp cG.zero d)::bw d 1 (bC [])::L)) w):
  Calls P yH #[Pb c] w (cC (AL E A v c sp o L S (if 64<=(plain ps).length then(⟨S,plain ps⟩,.bad 3)else
  ({core:=dN (s.ids 0 65536) S,procs:=plain ps++[(g,some s)]},⟨0,((plain ps).length:Nat),[]⟩)))):=by
 have f:=D _ _ _ _ hp;rw[kx];apply ax1;unfold Ou qD qJ qK qL qO qQ qR qU qW qZ zx;refine⟨_,rfl,some ⟨v,0,none⟩,Vm.cell h 0 rfl 5,_,rfl,r,h.cellAt 16 rfl 1,hq (λM=>⟨_,rfl,?_⟩) (λN=>⟨_,rfl,some ⟨sp,0,none⟩,Vm.cell h 0 rfl 6,use (aGe f (Vm.op hp h)) ?_⟩)⟩
 ·rw[eV];exact Vm.sq (j:=7) (out:=cG.zero) (out':=cG.bad 3) bN rfl h (λw' h'=>⟨rfl,.nil _ _,r,ps,d,D,hn,hb,rfl,hk,h'⟩)
 rw[cK];rintro _ ad ⟨t,rfl,h1⟩;have h2:=Vm.bk1 hp h1;refine⟨_,rfl,use (Qv f (Vm.out h2)) ?_⟩;rintro _ w2 ⟨q,rfl,O,K⟩;have hlen:=Ai f 0 65536;obtain⟨ids,C⟩:∃ids,s.ids 0 65536=ids:=⟨_,rfl⟩
 rw[C]at O K hlen ⊢;have U:Sep E (Vm A v r S ps (bw q 1 (bC ids)::ei t s::bD c (dc o v sp cG.zero d)::bw d 1 (bC [])::L)) w2:=Vm.hM [_,_] K;refine⟨q,rfl,λx w'=>∃(k:Nat) (S':Cs),x=k/\k<=ids.length/\Kc.Inv S'/\dN (ids.drop k) S'=dN ids S/\Sep E (Vm A v r S' ps (bw q 1 (bC ids)::ei t s::bD c (dc o v sp cG.zero d)::bw d 1 (bC [])::L)) w',λx _=>(ids.length-x).toNat,⟨0,S,rfl,dX _,aa,rfl,U⟩,?_⟩;rintro _ _ ae ⟨k,S',rfl,z,F,he,u⟩;refine cU (λN=>?_) (λM=>?_)
 ·obtain⟨x,hx⟩:∃x,ids[k]?=some x:=⟨_,du⟩
  have X:ids.drop k=x::ids.drop (k+1):=by
   have z:=(c2.1 hx).1;rw[kZ z];rw[ea z]at hx;rw[cV hx]
  rw[X]at he;refine(Vm.ints (L:=ei t s::bD c (dc o v sp cG.zero d)::bw d 1 (bC [])::L) O).el u k rfl hx ⟨_,rfl,some ⟨v,0,none⟩,Vm.cell u 2 rfl 5,_,rfl,some ⟨A.c,0,none⟩,u.cellAt 16 rfl 0,use (AH (id:=x) (n:=1) F u) ?_⟩;rintro _ Y ⟨rfl,B⟩;exact⟨_,rfl,⟨k+1,_,c4,bu,F.bP x 1,he,B⟩,by rw[c4];dsimp only;omega⟩
 ·have:k=ids.length:=by omega
  subst this;rw[xC]at he;have he:S'=dN ids S:=he;subst he;have B:=(Vm.out u).tail;refine Dr.i B (λY l=>⟨_,rfl,some ⟨v,0,none⟩,Vm.cell l 1 rfl 5,_,rfl,some ⟨v,0,none⟩,Vm.cell l 1 rfl 5,_,rfl,r,l.cellAt 16 rfl 1,_,rfl,o.a,Vm.cell l 1 rfl 1,Vm.el hn l (show o.a=((o.a.toNat:Nat):Int) by omega) hp (λb _ W=>⟨g,by rw[cj];exact W 0 _ rfl,use (Ti (g:=g) hn hb l) ?_⟩)⟩);rintro _ Z ⟨rfl,r',Q,V⟩;have y:=Vm.e4 [_] (V:Sep E (Vm A v r' (dN ids S) _ ([bD c (dc o v sp cG.zero d)]++(bw d 1 (bC [])::L))) Z);refine⟨_,_,⟨none,0,0⟩,rfl,_,rfl,?_⟩;refine St.i y (by show 7<10;decide) (λaf y=>St.i y (by show 8<10;decide) (λag y=>St.i y (by show 9<10;decide) (λR G=>?_)));have H:=Vm.hM [bD c (dc o v sp ⟨0,(ps.length:Nat),[]⟩ ⟨none,0,0⟩)] G;have I:=(bw.none_ (m:=1) (Vm.e4 [_,_] (H:Sep E (Vm A v r' (dN ids S) _ ([bD c (dc o v sp ⟨0,(ps.length:Nat),[]⟩ ⟨none,0,0⟩),bw d 1 (bC [])]++L)) R)))
  have J:Sep E (Vm A v r' (dN ids S) (ps++[(g,some (t,s))]) (bD c (dc o v sp ⟨0,(ps.length:Nat),[]⟩ ⟨none,0,0⟩)::bw ⟨none,0,0⟩ 1 (bC [])::L)) R:=Vm.hM [_,_] (I.ro 3 [1,0] rfl);refine⟨rfl,(SJ _ _).up bu,r',ps++[(g,some (t,s))],⟨none,0,0⟩,?_,Q,by rw[df,mx];omega,?_,rfl,J⟩
  ·intro i T a s' p;rcases hE i ps.length with e|e
   ·rw[eQ e]at p;exact D i T a s' p
   ·rw[fL e]at p;have:i-ps.length=0:=by
     have:=(c2.1 p).1;simp at this;omega
    rw[this]at p;cases p;exact f
  ·unfold plain;rw[lu];rfl
def dh(o:db):bA bH:=[Iv o.kind,Iv o.a,Iv o.b,Iv o.c,Iv o.d]
def rb(E:Env)(A:At)(v:Nat)(L:cr)(S:Cs)(q:Vs×cG)(x:bH)(w:bI):Prop:=
 x=.agg #[Iv q.2.err,Iv q.2.n,aP8]/\q.2.bE= []/\cw 66 S q.1.core/\∃(gs us r':Sl) (cN:PS),dH cN/\r'.n=cN.length/\cN.length<=64/\plain cN=q.1.procs/\Sep E (Vm {A with gs:=gs,us:=us} v r' q.1.core cN L) w
def ka{g b:Nat}{o:db}{V':Vs}{out:cG}{gs us r':Sl}{cN:PS}{F:bj0}(he:out.bE= [])(hr:cw 66 S V'.core)(f:dH cN)(hn:r'.n=cN.length)(hb:cN.length<=64)(hp:plain cN=V'.procs)(h:Sep E (bD b [Iv 0,Iv 0,aP8]::bD g (dh o)::Vm {A with gs:=gs,us:=us} v r' V'.core cN L) w)(k:∀x w',rb E A v L S (V',out) x w'->F x w'):
  k5 [Iv out.err,Iv out.n,aP8] ⟨b,0,none⟩ (λa=>∃c:Int,a.cell? ((⟨b,0,none⟩:Addr).add 0)=some (Iv c)/\∃d:Int,a.cell? ((⟨b,0,none⟩:Addr).add 1)=some (Iv d)/\∃e:Sl,a.cell? ((⟨b,0,none⟩:Addr).add 2)=some (Sv e)/\F (.agg #[Iv c,Iv d,Sv e]) a) w:=
 ey _ h rfl (λi h1=>⟨_,h1.cell 0,_,h1.cell 1,⟨none,0,0⟩,h1.cell 2,k _ _ ⟨rfl,he,hr,gs,us,r',cN,f,hn,hb,hp,h1.tail.tail⟩⟩)
def aIw{o:db}(g:dH ps)(hn:r.n=ps.length)(hb:ps.length<=64)(j:Kc.Inv S)(h:Sep E (Vm A v r S ps L) w):
  Calls P yu #[Pb v,.agg (dh o).toArray] w (cC (rb E A v L S (let q:=S.ct o.a;(⟨q.1,plain ps⟩,⟨q.2.2,max q.2.1 0,[]⟩)))):=by
 apply ay8;unfold Od qL qU qZ qj zI zW;dsimp only;refine Al.i h (λb k h1=>Al.i h1 (λc w2 h2=>Dr.i h2 (λi a=>?_)));have a:Sep E (bD c [Iv 0,Iv 0,aP8]::bD b (dh o)::Vm A v r S ps L) i:=a;refine⟨_,rfl,some ⟨A.c,0,none⟩,a.cellAt 18 rfl 0,o.a,a.cellAt 1 rfl 1,use (aEz (p:=o.a) j (Vm.hM [_,_] a)) ?_⟩;rintro _ l ⟨rfl,gs,us,d⟩;have e:=Vm.e4 (A:={A with gs:=gs,us:=us}) [bD c [Iv 0,Iv 0,aP8],bD b (dh o)] d;have em:eR (S.ct o.a).2.1 0=max (S.ct o.a).2.1 0:=by unfold eR;split<;>omega
 refine⟨_,_,rfl,?_⟩;rw[em];exact ka (V':=⟨(S.ct o.a).1,plain ps⟩) (out:=⟨(S.ct o.a).2.2,max (S.ct o.a).2.1 0,[]⟩) rfl ((cw.ct o.a).up bu) g hn hb rfl e (λ_ _ f=>f)
def aIx{o:db}(i:dH ps)(hn:r.n=ps.length)(hb:ps.length<=64)(k:Kc.Inv S)(h:Sep E (Vm A v r S ps L) w):
  Calls P yw #[Pb v,.agg (dh o).toArray] w (cC (rb E A v L S (let q:=S.cJ o.a o.b o.c;(⟨q.1,plain ps⟩,.bad q.2)))):=by
 apply aza;unfold Of qL qQ qU qZ zI zW;refine Al.i h (λb l h1=>Al.i h1 (λc w2 h2=>Dr.i h2 (λj a=>?_)));have a:Sep E (bD c [Iv 0,Iv 0,aP8]::bD b (dh o)::Vm A v r S ps L) j:=a;refine⟨_,rfl,some ⟨A.c,0,none⟩,a.cellAt 18 rfl 0,o.a,a.cellAt 1 rfl 1,o.b,a.cellAt 1 rfl 2,o.c,a.cellAt 1 rfl 3,use (aIi (g:=o.a) (what:=o.b) (n:=o.c) k (Vm.hM [_,_] a)) ?_⟩;rintro _ m ⟨rfl,d⟩;have e:=Vm.e4 [bD c [Iv 0,Iv 0,aP8],bD b (dh o)] d;exact⟨_,rfl,ka (V':=⟨(S.cJ o.a o.b o.c).1,plain ps⟩) (out:=.bad (S.cJ o.a o.b o.c).2) (gs:=A.gs) (us:=A.us) rfl ((cw.cJ o.a o.b o.c).up bu) i hn hb rfl e (λ_ _ f=>f)⟩
def aLx{o:db}(g:dH ps)(hn:r.n=ps.length)(hb:ps.length<=64)(j:Kc.Inv S)(h:Sep E (Vm A v r S ps L) w):
  Calls P yy #[Pb v,.agg (dh o).toArray] w (cC (rb E A v L S (let q:=S.dD o.a;(⟨q.1,plain ps⟩,⟨0,q.2,[]⟩)))):=by
 apply aB3;unfold Oh qL qQ qU qZ zI zW;refine Al.i h (λb k h1=>Al.i h1 (λc w2 h2=>Dr.i h2 (λi a=>?_)));have a:Sep E (bD c [Iv 0,Iv 0,aP8]::bD b (dh o)::Vm A v r S ps L) i:=a;refine⟨_,rfl,some ⟨A.c,0,none⟩,a.cellAt 18 rfl 0,o.a,a.cellAt 1 rfl 1,use (aLd (t:=o.a) j (Vm.hM [_,_] a)) ?_⟩;rintro _ l ⟨rfl,d⟩;have e:=Vm.e4 [bD c [Iv 0,Iv 0,aP8],bD b (dh o)] d;exact⟨_,rfl,ka (V':=⟨(S.dD o.a).1,plain ps⟩) (out:=⟨0,(S.dD o.a).2,[]⟩) (gs:=A.gs) (us:=A.us) rfl ((cw.dD o.a).up bu) g hn hb rfl e (λ_ _ f=>f)⟩
def aGj{o:db}(g:dH ps)(hn:r.n=ps.length)(hb:ps.length<=64)(j:Kc.Inv S)(h:Sep E (Vm A v r S ps L) w):
  Calls P yz #[Pb v,.agg (dh o).toArray] w (cC (rb E A v L S (let q:=S.shrink o.a o.b;(⟨q.1,plain ps⟩,⟨0,q.2,[]⟩)))):=by
 apply axZ;unfold Oi qL qQ qU qZ zI zW;refine Al.i h (λb k h1=>Al.i h1 (λc w2 h2=>Dr.i h2 (λi a=>?_)));have a:Sep E (bD c [Iv 0,Iv 0,aP8]::bD b (dh o)::Vm A v r S ps L) i:=a;refine⟨_,rfl,some ⟨A.c,0,none⟩,a.cellAt 18 rfl 0,o.a,a.cellAt 1 rfl 1,o.b,a.cellAt 1 rfl 2,use (aIl (t:=o.a) (n:=o.b) j (Vm.hM [_,_] a)) ?_⟩;rintro _ l ⟨rfl,d⟩;have e:=Vm.e4 [bD c [Iv 0,Iv 0,aP8],bD b (dh o)] d;exact⟨_,rfl,ka (V':=⟨(S.shrink o.a o.b).1,plain ps⟩) (out:=⟨0,(S.shrink o.a o.b).2,[]⟩) (gs:=A.gs) (us:=A.us) rfl ((cw.shrink o.a o.b).up bu) g hn hb rfl e (λ_ _ f=>f)⟩
def aIy{o:db}(n:dH ps)(hn:r.n=ps.length)(hb:ps.length<=64)(h:Sep E (Vm A v r S ps L) w):
  Calls P yx #[Pb v,.agg (dh o).toArray] w (cC (rb E A v L S (if S.live o.a=false then(⟨S,plain ps⟩,.bad 2)else if 64<=(plain ps).length then(⟨S,plain ps⟩,.bad 3)else
  (⟨S,plain ps++[(o.a,some Sp.new)]⟩,⟨0,((plain ps).length:Nat),[]⟩)))):=by
 have hl:S.live o.a=dB S.tree o.a:=rfl;rw[kx,hl];apply azb;unfold Og qF qK qL qR qU qZ zH zI zW zx;refine Al.i h (λl I h1=>Al.i h1 (λm w2 h2=>Dr.i h2 (λC f=>?_)));have f:Sep E (bD m [Iv 0,Iv 0,aP8]::bD l (dh o)::Vm A v r S ps L) C:=f;refine⟨_,rfl,some ⟨A.c,0,none⟩,f.cellAt 18 rfl 0,o.a,f.cellAt 1 rfl 1,use (wN (Vm.hM [_,_] f)) ?_⟩;rintro _ D ⟨rfl,y⟩;have c:=Vm.e4 [bD m [Iv 0,Iv 0,aP8],bD l (dh o)] y;have c:Sep E (bD m [Iv 0,Iv 0,aP8]::bD l (dh o)::Vm A v r S ps L) D:=c;refine⟨_,rfl,o.a,c.cellAt 1 rfl 1,rfl,use (kQ c (q:=3) rfl) ?_⟩;rintro _ _ ⟨rfl,rfl⟩;refine⟨_,rfl,cy (λk=>?_) (λb=>⟨_,rfl,r,c.cellAt 18 rfl 1,hq (λG=>?_) (λH=>Dr.i c (λJ s=>⟨o.a,s.cellAt 1 rfl 1,use (aKo s) ?_⟩))⟩)⟩
 ·have k:dB S.tree o.a=false:=by simpa using k
  rw[bK k];exact ka (V':=⟨S,plain ps⟩) (out:=.bad 2) (gs:=A.gs) (us:=A.us) rfl (.nil _ _) n hn hb rfl c (λ_ _ j=>j)
 ·have b:dB S.tree o.a=true:=by simpa using b
  rw[bJ (by rw[b];decide),eV];exact ka (V':=⟨S,plain ps⟩) (out:=.bad 3) (gs:=A.gs) (us:=A.us) rfl (.nil _ _) n hn hb rfl c (λ_ _ j=>j)
 ·have b:dB S.tree o.a=true:=by simpa using b
  rw[bJ (by rw[b];decide),cK];rintro _ F ⟨sp,rfl,t⟩;have z:Sep E (Vm A v r S ps (ei sp Sp.new::([bD m [Iv 0,Iv 0,aP8],bD l (dh o)]++L))) F:=Vm.hM [_,_,_] t;refine⟨_,rfl,o.a,t.cellAt 2 rfl 1,rfl,use (Ti (g:=o.a) hn hb z) ?_⟩;rintro _ K ⟨rfl,r',u,B⟩;have p:=Vm.e4 [bD m [Iv 0,Iv 0,aP8],bD l (dh o)] B;refine⟨_,_,⟨none,0,0⟩,rfl,ka (V':=⟨S,plain ps++[(o.a,some Sp.new)]⟩) (out:=⟨0,(ps.length:Nat),[]⟩) (gs:=A.gs) (us:=A.us) (cN:=ps++[(o.a,some (sp,Sp.new))]) rfl (.nil _ _) ?_ u (by rw[df,mx];omega) ?_ p (λ_ _ j=>j)⟩
  ·intro i x a s' d;rcases hE i ps.length with e|e
   ·rw[eQ e]at d;exact n i x a s' d
   ·rw[fL e]at d;have:i-ps.length=0:=by
     have:=(c2.1 d).1;simp at this;omega
    rw[this]at d;cases d;exact fR.new
  ·unfold plain;rw[lu];rfl
def aJ1(g:Int):Vs.busy ⟨S,plain ps⟩ g=((g !=0&&S.live g)&&(plain ps).any λp=>p.2.isSome&&p.1==g):=rfl
def aGi{o:db}(H:dH ps)(hn:r.n=ps.length)(hb:ps.length<=64)(T:Kc.Inv S)(h:Sep E (Vm A v r S ps L) w):
  Calls P yv #[Pb v,.agg (dh o).toArray] w (cC (rb E A v L S (if Vs.busy ⟨S,plain ps⟩ o.a then(⟨S,plain ps⟩,.bad 4)else(let q:=S.remove o.a;(⟨q.1,plain ps⟩,.bad q.2))))):=by
 rw[aJ1];apply axY;unfold Oe qF qK qL qO qQ qR qU qW qZ qh zH zI zW zq;dsimp only;refine Al.i h (λi U h1=>Al.i h1 (λj w2 h2=>?_));have h2:Sep E (bD j [Iv 0,Iv 0,aP8]::bD i (dh o)::Vm A v r S ps L) w2:=h2;have hl:S.live o.a=dB S.tree o.a:=rfl;refine⟨λb w'=>b=(o.a !=0&&S.live o.a)/\Sep E (bD j [Iv 0,Iv 0,aP8]::bD i (dh o)::Vm A v r S ps L) w',Dr.i h2 (λN d=>⟨o.a,d.cellAt 1 rfl 1,cy (λe=>⟨_,rfl,some ⟨A.c,0,none⟩,d.cellAt 18 rfl 0,o.a,d.cellAt 1 rfl 1,use (wN (Vm.hM [_,_] d)) ?_⟩) (λe=>⟨by rw[e];rfl,d⟩)⟩),?_⟩
 ·rintro _ I ⟨rfl,n⟩;have a:=Vm.e4 [bD j [Iv 0,Iv 0,aP8],bD i (dh o)] n;have a:Sep E (bD j [Iv 0,Iv 0,aP8]::bD i (dh o)::Vm A v r S ps L) I:=a;refine⟨_,rfl,o.a,a.cellAt 1 rfl 1,rfl,use (kQ a (q:=3) rfl) ?_⟩;rintro _ _ ⟨rfl,rfl⟩;exact⟨_,rfl,by rw[e,hl];rfl,a⟩
 rintro _ _ N ⟨rfl,d⟩;generalize (o.a !=0&&S.live o.a)=l;refine⟨_,rfl,r,d.cellAt 18 rfl 1,λx w'=>∃k:Nat,x=k/\k<=ps.length/\(l&&((plain ps).take k).any λp=>p.2.isSome&&p.1==o.a)=false/\Sep E (bD j [Iv 0,Iv 0,aP8]::bD i (dh o)::Vm A v r S ps L) w',λx _=>(ps.length-x).toNat,⟨0,rfl,dX _,by simp,d⟩,?_⟩;rintro _ _ I ⟨k,rfl,hk,m,n⟩;refine cU (λR=>?_) (λQ=>?_)
 ·obtain⟨p,hp⟩:∃p,ps[k]?=some p:=⟨_,du⟩
  obtain⟨g,f⟩:=p;have B:=iZ hp;have z:∀b:Bool,(l&&((f.map Prod.snd).isSome&&g==o.a))=b->(l&&((plain ps).take (k+1)).any λp=>p.2.isSome&&p.1==o.a)=b:=by
   intro b hb;rw[take_succ B,Hw,Bool.and_or_distrib_left,m,HC];show(l&&(((f.map Prod.snd).isSome&&g==o.a)||false))=b;rw[pN];exact hb
  have y:((ps.length:Int)-((k+1:Nat):Int)).toNat<((ps.length:Int)-(k:Int)).toNat:=by omega
  have G:=Vm.hM [_,_] n;refine Vm.el hn G rfl hp (λb _ F=>⟨g,by rw[cj];exact F 0 _ rfl,f.map (λq=>(⟨q.1,0,none⟩:Addr)),by rw[cj];exact F 1 _ rfl,Al.i n (λpp O a=>ey _ a rfl (λD c=>?_))⟩);have c:Sep E (bD pp (gy (g,f))::bD j [Iv 0,Iv 0,aP8]::bD i (dh o)::Vm A v r S ps L) D:=c;have next:(l&&((f.map Prod.snd).isSome&&g==o.a))=false->(∃k':Nat,i64.wrap ((k:Int)+1)=k'/\k'<=ps.length/\(l&&((plain ps).take k').any λp=>p.2.isSome&&p.1==o.a)=false/\Sep E (bD j [Iv 0,Iv 0,aP8]::bD i (dh o)::Vm A v r S ps L) D)/\((ps.length:Int)-i64.wrap ((k:Int)+1)).toNat<((ps.length:Int)-(k:Int)).toNat:=
   λM=>⟨⟨k+1,c4,bu,z _ M,c.tail⟩,by rw[c4];exact y⟩
  have J:(!(f.map λq=>(⟨q.1,0,none⟩:Addr)).isNone)=(f.map Prod.snd).isSome:=by cases f<;>rfl
  refine cy (λs=>⟨_,c.cell 1,?_⟩) (λs=>next (by rw[s];rfl));rw[J];refine cy (λt=>⟨g,c.cell 0,o.a,c.cellAt 2 rfl 1,cy (λheq=>?_) (λe=>next (by rw[e];simp))⟩) (λt=>next (by rw[t];simp));have u:(l&&(plain ps).any λp=>p.2.isSome&&p.1==o.a)=true:=by
   rw[s,my];exact uM.2 ⟨_,eG B,by rw[dF];exact⟨t,heq⟩⟩
  rw[bK u];exact ka (V':=⟨S,plain ps⟩) (out:=.bad 4) (gs:=A.gs) (us:=A.us) rfl (.nil _ _) H hn hb rfl c.tail (λ_ _ C=>C)
 ·have:k=ps.length:=by omega
  subst this;rw[iq (by rw[kx];exact ec _)]at m;rw[bJ (by rw[m];decide)];refine Dr.i n (λO a=>⟨_,rfl,some ⟨A.c,0,none⟩,a.cellAt 18 rfl 0,o.a,a.cellAt 1 rfl 1,use (aFU (g:=o.a) T (Vm.hM [_,_] a)) ?_⟩);rintro _ D ⟨rfl,c⟩;have K:=Vm.e4 [bD j [Iv 0,Iv 0,aP8],bD i (dh o)] c;exact⟨_,rfl,ka (V':=⟨(S.remove o.a).1,plain ps⟩) (out:=.bad (S.remove o.a).2) (gs:=A.gs) (us:=A.us) rfl ((cw.remove o.a).up bu) H hn hb rfl K (λ_ _ C=>C)⟩
end Go.Mp
namespace Go.Sp
open Go Go.Vc
variable{P:cS}
def Gn(P:cS)(t:bZ):Bool:=match P.underlying t with
 |some (.func _ _ _)=>true
 |_=>false
def AM{t:bZ}(e:Gn P t=true)(g:bj6)(w:bI):(Op.equal t (.func (.func g) #[] #[]) .nilFunc).run P w=.ok false w/\(Op.equal t .nilFunc .nilFunc).run P w=.ok true w:=by
 unfold Gn at e;split at e
 ·next a b c hu=>
  have h1:∀d,(Op.equalIn (d+1) t (.func (.func g) #[] #[]) .nilFunc).run P w=.ok false w:=λd=>by simp[Op.equalIn,run_underlying hu]
  have h2:∀d,(Op.equalIn (d+1) t .nilFunc .nilFunc).run P w=.ok true w:=λd=>by simp[Op.equalIn,run_underlying hu]
  exact⟨sL (h1 9999),sL (h2 9999)⟩
 ·cases e
def kE.fn{t:bZ}(a:Gn P t=true)(o:bX bj6):kE P .neq t ((o.map λg=>Value.func (.func g) #[] #[]).getD .nilFunc) .nilFunc o.isSome/\kE P .eql t ((o.map λg=>Value.func (.func g) #[] #[]).getD .nilFunc) .nilFunc (!o.isSome):=by
 cases o with
 |none=>
  refine⟨⟨λb c w=>?_,λw=>?_⟩,⟨λb c w=>?_,λw=>?_⟩⟩;·simp[eqGuard]
  ·have:=(AM a 0 w).2;simp[binOp,this]
  ·simp[eqGuard]
  ·have:=(AM a 0 w).2;simp[binOp,this]
 |some g=>
  refine⟨⟨λb c w=>?_,λw=>?_⟩,⟨λb c w=>?_,λw=>?_⟩⟩;·simp[eqGuard]
  ·have:=(AM a g w).1;simp[binOp,this]
  ·simp[eqGuard]
  ·have:=(AM a g w).1;simp[binOp,this]
end Go.Sp
namespace Go.Mp
open Go Go.Vc Go.Sp Go.Proofs Go.Kc Go.Kw Go.Kt
variable{E:Env}{L:cr}{w W:bI}
def rf(k:Int):bX bj6:=if k=0 then some yu else if k=1 then some yv else if k=2 then some yw else if k=3 then some yx else if k=12 then some yy else if k=13 then some yz else none
def rh(k:Int):bX bj6:=if k=4 then some yA else if k=5 then some yC else if k=6 then some yD else if k=7 then some yE else if k=8 then some yF else if k=9 then some yG else if k=10 then some yH else if k=11 then some yB else none
def sr(f:Int->bX bj6)(k:Int):bX bH:=(f k).map λg=>.func (.func g) #[] #[]
def hD:ih P pd (Value.int .i64):=ih.int cE
def aEI(h:Sep E L w):Calls P Jk #[] w (cC λx w'=>∃m:Nat,x=.map (some m)/\Sep E (cM m (Value.int .i64) (sr rf)::L) w'):=by
 apply aze;refine cM.new (κ:=Int) (enc:=Value.int .i64) h (λm n h1=>?_);refine mapUpdate.i h1 hD (z:=.nilFunc) cE 0 _ (λw2 h2=>?_);refine mapUpdate.i h2 hD (z:=.nilFunc) cE 1 _ (λo f=>?_);refine mapUpdate.i f hD (z:=.nilFunc) cE 2 _ (λp g=>?_);refine mapUpdate.i g hD (z:=.nilFunc) cE 3 _ (λq i=>?_);refine mapUpdate.i i hD (z:=.nilFunc) cE 12 _ (λr j=>?_);refine mapUpdate.i j hD (z:=.nilFunc) cE 13 _ (λs l=>⟨m,rfl,?_⟩);have e:sr rf=cR (cR (cR (cR (cR (cR (λ_=>none) 0 (some (.func (.func yu) #[] #[]))) 1 (some (.func (.func yv) #[] #[]))) 2 (some (.func (.func yw) #[] #[]))) 3 (some (.func (.func yx) #[] #[]))) 12 (some (.func (.func yy) #[] #[]))) 13 (some (.func (.func yz) #[] #[])):=by
  funext k;unfold sr rf cR;by_cases a0:k=0;·subst a0;rfl
  by_cases c:k=1;·subst c;rfl
  by_cases d:k=2;·subst d;rfl
  by_cases a3:k=3;·subst a3;rfl
  by_cases a:k=12;·subst a;rfl
  by_cases b:k=13;·subst b;rfl
  simp only[bJ a0,bJ c,bJ d,bJ a3,bJ a,bJ b];rfl
 rw[e];exact l
def aKd(h:Sep E L w):Calls P Jl #[] w (cC λx w'=>∃m:Nat,x=.map (some m)/\Sep E (cM m (Value.int .i64) (sr rh)::L) w'):=by
 apply aDf;refine cM.new (κ:=Int) (enc:=Value.int .i64) h (λm p h1=>?_);refine mapUpdate.i h1 hD (z:=.nilFunc) cE 4 _ (λw2 h2=>?_);refine mapUpdate.i h2 hD (z:=.nilFunc) cE 11 _ (λq f=>?_);refine mapUpdate.i f hD (z:=.nilFunc) cE 5 _ (λr g=>?_);refine mapUpdate.i g hD (z:=.nilFunc) cE 6 _ (λs i=>?_);refine mapUpdate.i i hD (z:=.nilFunc) cE 7 _ (λt j=>?_);refine mapUpdate.i j hD (z:=.nilFunc) cE 8 _ (λu l=>?_);refine mapUpdate.i l hD (z:=.nilFunc) cE 9 _ (λv n=>?_);refine mapUpdate.i n hD (z:=.nilFunc) cE 10 _ (λy o=>⟨m,rfl,?_⟩);have e:sr rh=cR (cR (cR (cR (cR (cR (cR (cR (λ_=>none) 4 (some (.func (.func yA) #[] #[]))) 11 (some (.func (.func yB) #[] #[]))) 5 (some (.func (.func yC) #[] #[]))) 6 (some (.func (.func yD) #[] #[]))) 7 (some (.func (.func yE) #[] #[]))) 8 (some (.func (.func yF) #[] #[]))) 9 (some (.func (.func yG) #[] #[]))) 10 (some (.func (.func yH) #[] #[])):=by
  funext k;unfold sr rh cR;by_cases a0:k=4;·subst a0;rfl
  by_cases a:k=5;·subst a;rfl
  by_cases b:k=6;·subst b;rfl
  by_cases a3:k=7;·subst a3;rfl
  by_cases a4:k=8;·subst a4;rfl
  by_cases a5:k=9;·subst a5;rfl
  by_cases c:k=10;·subst c;rfl
  by_cases d:k=11;·subst d;rfl
  simp only[bJ a0,bJ a,bJ b,bJ a3,bJ a4,bJ a5,bJ c,bJ d];rfl
 rw[e];exact o
end Go.Mp
namespace Go.Kw
open Go Go.Kc Go.Kt
def Tj{V:Vs}{o:db}(h:(o.kind<0\/13<o.kind)/\True):V.act o=(V,.bad 1):=by
 have h:=h.1;unfold Vs.act;rw[cK,cK,cK,cK,cK,cK,bK h]
def w1{V:Vs}{o:db}(h:4<=o.kind/\o.kind<=11):V.act o=match V.space o.a with
  |none=>(V,.bad 2)
  |some s=>V.call s o:=by
 unfold Vs.act;rw[cK,cK,cK,cK,cK,cK,cK];rfl
end Go.Kw
namespace Go.Mp
open Go Go.Vc Go.Sp Go.Proofs Go.Kc Go.Kw Go.Kt
variable{E:Env}{L:cr}{w W:bI}{A:At}{S:Cs}{v:Nat}{r:Sl}{ps:PS}
def aKl{o:db}{g:bj6}(a:rf o.kind=some g)(b:dH ps)(hn:r.n=ps.length)(hb:ps.length<=64)(c:Kc.Inv S)(h:Sep E (Vm A v r S ps L) w):
  k6 P g=true/\Calls P g #[Pb v,.agg (dh o).toArray] w (cC (rb E A v L S (Vs.act ⟨S,plain ps⟩ o))):=by
 unfold rf at a;unfold Vs.act;split at a;·next e=>cases a;rw[bK e];exact⟨by kernel_rfl,aIw b hn hb c h⟩
 next e0=>
 rw[bJ e0];split at a
 ·next e=>
  cases a;rw[bK e];exact⟨by kernel_rfl,aGi b hn hb c h⟩
 next f=>
 rw[bJ f];split at a;·next e=>cases a;rw[bK e];exact⟨by kernel_rfl,aIx b hn hb c h⟩
 next i=>
 rw[bJ i];split at a;·next e=>cases a;rw[bK e];exact⟨by kernel_rfl,aIy b hn hb h⟩
 next j=>
 rw[bJ j];split at a;·next e=>cases a;rw[bK e];exact⟨by kernel_rfl,aLx b hn hb c h⟩
 next d=>
 rw[bJ d];split at a;·next e=>cases a;rw[bK e];exact⟨by kernel_rfl,aGj b hn hb c h⟩
 ·cases a
def aKc{c sp:Nat}{o:db}{i:bj6}(a:rh o.kind=some i)(d:dH ps)(hn:r.n=ps.length)(hb:ps.length<=64)(j:Kc.Inv S)(f:S.bt.next+66<=16777216)(b:0<=o.a){g:Int}{s:Kw.Sp}(hp:ps[o.a.toNat]?=some (g,some (sp,s)))(h:Sep E (Vm A v r S ps (bD c (dc o v sp cG.zero ⟨none,0,0⟩)::bw ⟨none,0,0⟩ 1 (bC [])::L)) w):
  k6 P i=true/\Calls P i #[Pb c] w (cC (AL E A v c sp o L S (Vs.call ⟨S,plain ps⟩ s o))):=by
 have l:Vs.group ⟨S,plain ps⟩ o.a=g:=by
  have:=(iY (V:=⟨S,plain ps⟩) (iZ hp)).2;rwa[show((o.a.toNat:Nat):Int)=o.a by omega]at this
 have up:∀ {q:Vs×cG} {F:bj6},Calls P F #[Pb c] w (cC (done E A v r c sp o L ps.length S q))->Calls P F #[Pb c] w (cC (AL E A v c sp o L S q)):=by
  intro q F z;refine z.mono ?_;rintro e w' ⟨x,rfl,B⟩;exact⟨x,rfl,B.toC hn hb⟩
 unfold rh at a;unfold Vs.call;dsimp only;split at a;·next e=>cases a;rw[bK e];exact⟨by kernel_rfl,up (aIo d hn rfl b hp h)⟩
 next m=>
 rw[bJ m];split at a;·next e=>cases a;rw[bK e];exact⟨by kernel_rfl,up (aIr d rfl b hp h)⟩
 next n=>
 rw[bJ n];split at a;·next e=>cases a;rw[bK e];exact⟨by kernel_rfl,up (aF7 d rfl b hp h)⟩
 next p=>
 rw[bJ p];split at a;·next e=>cases a;rw[bK e];exact⟨by kernel_rfl,up (aKs d j rfl b hp h)⟩
 next t=>
 rw[bJ t];split at a;·next e=>cases a;rw[bK e];exact⟨by kernel_rfl,up (aLs d hn hb j f rfl b hp h)⟩
 next u=>
 rw[bJ u];split at a;·next e=>cases a;rw[bK e];exact⟨by kernel_rfl,up (aKq d hn hb j f rfl b hp h)⟩
 next y=>
 rw[bJ y];split at a;·next e=>cases a;rw[bK e,l];exact⟨by kernel_rfl,aLn d hn hb j rfl b hp h⟩
 next k=>
 rw[bJ k];split at a;·next e=>cases a;exact⟨by kernel_rfl,up (aKg d hn j rfl b hp h)⟩
 ·cases a
def Tk(E:Env)(A:At)(v:Nat)(L:cr)(S:Cs)(q:Vs×cG)(x:bH)(w:bI):Prop:=
 cw 66 S q.1.core/\∃(gs us r' a:Sl) (cN:PS),x=.agg #[Iv q.2.err,Iv q.2.n,Sv a]/\dH cN/\r'.n=cN.length/\cN.length<=64/\plain cN=q.1.procs/\a.n=q.2.bE.length/\
  Sep E (Vm {A with gs:=gs,us:=us} v r' q.1.core cN (bw a 1 (bC q.2.bE)::L)) w
def aII{k:Int}:(∃g,rf k=some g)\/(rf k=none/\((∃g,rh k=some g/\4<=k/\k<=11)\/(rh k=none/\(k<0\/13<k)))):=by
 by_cases hk:k<0\/13<k
 ·refine .inr ⟨?_,.inr ⟨?_,hk⟩⟩;·unfold rf;rw[cK,cK,cK,cK,cK,cK]
  ·unfold rh;rw[cK,cK,cK,cK,cK,cK,cK,cK]
 ·have:k=0\/k=1\/k=2\/k=3\/k=4\/k=5\/k=6\/k=7\/k=8\/k=9\/k=10\/k=11\/k=12\/k=13:=by omega
  rcases this with rfl|rfl|rfl|rfl|rfl|rfl|rfl|rfl|rfl|rfl|rfl|rfl|rfl|rfl;all_goals first|exact .inl ⟨_,rfl⟩|exact .inr ⟨rfl,.inl ⟨_,rfl,bN,bN⟩⟩
def w3{m i:Nat}{f:Int->bX bj6}{t:bZ}(h:Sep E L w)(a:L[i]?=some (cM m (Value.int .i64) (sr f)))(b:mQ P t=some (pd,.nilFunc))(k:Int):gE P t (.map (some m)) (Iv k) false w (((f k).map λg=>Value.func (.func g) #[] #[]).getD .nilFunc):=
 gE.i false i h a hD b k
def AN(o:db)(W:dH ps)(hn:r.n=ps.length)(hb:ps.length<=64)(aw:Kc.Inv S)(aj:S.bt.next+66<=16777216)(h:Sep E (Vm A v r S ps L) w):
  Calls P la #[Pb v,.agg (dh o).toArray] w (cC (Tk E A v L S (Vs.act ⟨S,plain ps⟩ o))):=by
 obtain⟨Q,l⟩:∃Q,Vs.act ⟨S,plain ps⟩ o=Q:=⟨_,rfl⟩
 rw[l];apply aDe;unfold N7 qL qR qU zH zI zL zW zZ;refine Al.i h (λt ap h1=>Al.i h1 (λf w2 h2=>Dr.i h2 (λaq K=>?_)));have K:Sep E (bD f [Iv 0,Iv 0,aP8]::bD t (dh o)::Vm A v r S ps L) aq:=K;refine⟨o.kind,K.cellAt 1 rfl 0,use (aEI K) ?_⟩;rintro _ ar ⟨m,rfl,n⟩;refine⟨_,rfl,o.kind,n.cellAt 2 rfl 0,rfl,_,w3 n (i:=0) rfl cE o.kind,_,(kE.fn cE _).1,?_⟩;have ab:=n.tail;have j:∀ {w:bI} (e:Int),Q=(⟨S,plain ps⟩,cG.bad e)->Sep E (bD f [Iv 0,Iv 0,aP8]::bD t (dh o)::Vm A v r S ps L) w->
   k5 [Iv e,Iv 0,aP8] ⟨f,0,none⟩ (λz=>∃O:Int,z.cell? ((⟨f,0,none⟩:Addr).add 0)=some (Iv O)/\∃R:Int,z.cell? ((⟨f,0,none⟩:Addr).add 1)=some (Iv R)/\∃T:Sl,z.cell? ((⟨f,0,none⟩:Addr).add 2)=some (Sv T)/\Tk E A v L S Q (.agg #[Iv O,Iv R,Sv T]) z) w:=by
  intro w e ao an;refine ey _ an rfl (λap h1=>⟨_,h1.cell 0,_,h1.cell 1,⟨none,0,0⟩,h1.cell 2,?_⟩);rw[ao];exact⟨.nil _ _,A.gs,A.us,r,⟨none,0,0⟩,ps,rfl,W,hn,hb,rfl,rfl,Vm.eK (bw.none_ (m:=1) h1.tail.tail)⟩
 rcases aII (k:=o.kind)with⟨g,B⟩|⟨hm,am⟩
 ·rw[B];obtain⟨G,b⟩:=aKl (o:=o) B W hn hb aw (Vm.hM [bD f [Iv 0,Iv 0,aP8],bD t (dh o)] ab);rw[l]at b;refine bT rfl ⟨_,n.cellAt 2 rfl 0,_,n.cellAt 2 rfl 1,_,n.cellAt 2 rfl 2,_,n.cellAt 2 rfl 3,_,n.cellAt 2 rfl 4,_,_,rfl,G,?_⟩;have b:Calls P g (#[Pb v,.agg #[Iv o.kind,Iv o.a,Iv o.b,Iv o.c,Iv o.d]]++ #[]) ar _:=b;refine use b ?_;rintro _ au ⟨rfl,hk,I,gs,us,r',cN,J,F,D,H,C⟩;have d:=Vm.e4 [bD f [Iv 0,Iv 0,aP8],bD t (dh o)] C;refine⟨_,_,⟨none,0,0⟩,rfl,ey _ d rfl (λav p=>⟨_,p.cell 0,_,p.cell 1,⟨none,0,0⟩,p.cell 2,I,gs,us,r',⟨none,0,0⟩,cN,rfl,J,F,D,H,by rw[hk];rfl,?_⟩)⟩;rw[hk];exact Vm.eK (bw.none_ (m:=1) p.tail.tail)
 rw[hm];refine bF rfl (Dr.i ab (λau C=>⟨o.kind,C.cellAt 1 rfl 0,o.a,C.cellAt 1 rfl 1,use (aKd C) ?_⟩));rintro _ av ⟨ay,rfl,d⟩;refine⟨_,rfl,o.a,d.cellAt 2 rfl 1,rfl,o.kind,d.cellAt 2 rfl 0,rfl,_,w3 d (i:=0) rfl cE o.kind,use (Gf (pid:=o.a) hn (Vm.hM [_,_,_] d)) ?_⟩;rintro x _ ⟨N,rfl⟩;have p:=d.tail;rcases am with⟨al,B,ae,af⟩|⟨ad,ag⟩
 ·rw[w1 ⟨ae,af⟩]at l;rcases N with⟨i,a,g,s,M,hp,rfl⟩|⟨ai,rfl⟩
  ·have ak:ps[o.a.toNat]?=some (g,some (a,s)):=by rw[M,dt];exact hp
   have X:Vs.space ⟨S,plain ps⟩ o.a=some s:=by rw[M];exact(iY (V:=⟨S,plain ps⟩) (iZ hp)).1
   rw[X]at l;dsimp only at l;refine⟨_,rfl,_,w3 d (i:=0) rfl cE o.kind,rfl,o.kind,d.cellAt 2 rfl 0,rfl,_,(kE.fn cE _).2,?_⟩;rw[B];refine bF rfl (bF rfl ⟨_,d.cellAt 2 rfl 0,_,d.cellAt 2 rfl 1,_,d.cellAt 2 rfl 2,_,d.cellAt 2 rfl 3,_,d.cellAt 2 rfl 4,Al.i p (λc Y U=>?_)⟩);have U:Sep E (bD c (dc o v a cG.zero ⟨none,0,0⟩)::bD f [Iv 0,Iv 0,aP8]::bD t (dh o)::Vm A v r S ps L) Y:=U;have Z:Sep E (Vm A v r S ps (bD c (dc o v a cG.zero ⟨none,0,0⟩)::bw ⟨none,0,0⟩ 1 (bC [])::([bD f [Iv 0,Iv 0,aP8],bD t (dh o)]++L))) Y:=Vm.hM [_,_,_,_] ((bw.none_ (m:=1) U).swap);obtain⟨G,b⟩:=aKc (c:=c) (sp:=a) (o:=o) (s:=s) B W hn hb aw aj bu ak Z;rw[l]at b;refine⟨_,_,rfl,G,?_⟩;have b:Calls P al (#[Pb c]++ #[]) Y _:=b;refine use b ?_;rintro _ az ⟨rfl,I,r',cN,q,J,F,D,H,ah,aa⟩;have u:=Vm.e4 [bD c (dc o v a Q.2 q),bw q 1 (bC Q.2.bE),bD f [Iv 0,Iv 0,aP8],bD t (dh o)] aa;refine⟨rfl,_,rfl,Q.2.err,u.cell 7,Q.2.n,u.cell 8,q,u.cell 9,ey _ (u.ro 4 [2,1,0,3] rfl) rfl (λax y=>⟨_,y.cell 0,_,y.cell 1,q,y.cell 2,I,A.gs,A.us,r',q,cN,rfl,J,F,D,H,ah,?_⟩)⟩;exact Vm.eK (y.ro 4 [1] rfl)
  ·rw[ai]at l;refine⟨_,rfl,_,w3 d (i:=0) rfl cE o.kind,rfl,o.kind,d.cellAt 2 rfl 0,rfl,_,(kE.fn cE _).2,?_⟩;rw[B];exact bF rfl (bT rfl (j 2 l.symm p))
 ·rw[Tj ⟨ag,trivial⟩]at l;obtain⟨pp,rfl⟩:∃pp:cm,x=.pointer pp:=by
   rcases N with⟨_,_,_,_,_,_,e⟩|⟨_,e⟩<;>exact⟨_,e⟩
  refine⟨_,rfl,_,w3 d (i:=0) rfl cE o.kind,rfl,o.kind,d.cellAt 2 rfl 0,rfl,_,(kE.fn cE _).2,?_⟩;rw[ad];exact bT rfl (j 1 l.symm p)
end Go.Mp
namespace Go.Kw
open Go Go.Kc Go.Kt
def cz(V:Vs):bA db->Vs×bA cG
 |[]=>(V,[])
 |o::l=>let r:=V.act o;let q:=cz r.1 l;(q.1,r.2::q.2)
def pC(o:db):∀(l:bA db) (V:Vs),cz V (l++[o])=(((cz V l).1.act o).1,(cz V l).2++[((cz V l).1.act o).2])
 |[],V=>rfl
 |x::l,V=>by
  show((cz (V.act x).1 (l++[o])).1,(V.act x).2::(cz (V.act x).1 (l++[o])).2)=_;rw[pC o l (V.act x).1];rfl
def oe:∀(l:bA db) (V:Vs),(cz V l).2.length=l.length
 |[],_=>rfl
 |x::l,V=>eO Nat.succ (oe l (V.act x).1)
end Go.Kw
namespace Go.Mp
open Go Go.Vc Go.Sp Go.Proofs Go.Kc Go.Kw Go.Kt
variable{E:Env}{L:cr}{w W:bI}{A:At}{S:Cs}{v:Nat}{r:Sl}{ps:PS}{V:Vs}
def AO{fr sl:Int}{sz:Sl}{l:bS}{o:cf Obj}(e:Ints E (cO o::L) sz l)(a:sz.n<=sz.c)(h:Sep E (cO o::L) w):Calls P p5 #[Iv fr,Iv sl,Sv sz] w
  (cC λx w'=>∃(A:At) (v:Nat),x=Pb v/\A.o=o/\Sep E (Vm A v ⟨none,0,0⟩ (Kc.new fr sl l) [] L) w'):=by
 apply aGS;unfold N5 qR;refine use (wC e a h) ?_;rintro _ f ⟨A,rfl,ho,h1⟩;refine⟨_,rfl,Al.i h1 (λv w2 h2=>⟨A,v,rfl,ho,?_⟩)⟩;have b:=(bw.none_ (m:=2) h2)
 have c:Sep E ([bw ⟨none,0,0⟩ 2 [],bD v [Pb A.c,aP8]]++(ch A (Kc.new fr sl l)++L)) w2:=b;have d:=c.perm (mr _ _ _);exact d.perm (oR _ (List.Perm.swap _ _ _))
def aKt(h:Sep E (Vm A v r S ps L) w):Calls P vx #[Pb v] w (cC λx w'=>x=Pb A.c/\w'=w):=by
 apply aAv;unfold N6 qZ;exact⟨_,rfl,_,h.cellAt 16 rfl 0,rfl,rfl⟩
def jb(E:Env)(L:cr)(l:Sl)(os:bA db):Prop:=l.n=os.length/\∀w,Sep E L w->∀(i:Nat) o,os[i]?=some o->∃a,l.p=some a/\∀(j:Nat) u,(dh o)[j]?=some u->w.cell? ((a.add (i*5)).add j)=some u
def nr(p:cG×Sl):bA bH:=[Iv p.1.err,Iv p.1.n,.slice p.2.p p.2.n p.2.c]
def w4(p:cG×Sl):(nr p).length=3:=rfl
def dd(s:Sl)(l:bA cG):Asn:=fo λq:bA (cG×Sl)=>cL (q.map Prod.fst=l/\s.n=l.length/\∀p∈q,p.2.n=p.1.bE.length) (cA (bw s 3 (bO nr q)::q.map λp=>bw p.2 1 (bC p.1.bE)))
def Tl:hG P yo=some (40,3,[Iv 0,Iv 0,aP8]):=by kernel_rfl
def dd.push{s:Sl}{l:bA cG}{a:cG}{b:Sl}{p:Nat}(hk:b.n=a.bE.length)(hb:l.length<=100000)(h:Sep E (bD p [Iv a.err,Iv a.n,Sv b]::bw b 1 (bC a.bE)::dd s l::L) w){G:Sl->bi9}(g:∀s' d,Sep E (dd s' (l++[a])::L) d->G s' d):
  ∃k:Sl,∃d,Sem.run P (Builtin.append_ #[yo,yo] yo #[Sv s,.slice (some ⟨p,0,none⟩) 1 1]) w=.ok (Sv k) d/\G k d:=by
 have y:=Src.bD (n:=1) (c:=1) h (i:=0) rfl Tl rfl (λu hu=>by simp only[eH,uN,uT]at hu;rcases hu with rfl|rfl|rfl<;>rfl);obtain⟨q,h1⟩:=Sep.ex.1 (h.ro 3 [2,0,1] rfl);obtain⟨⟨h2,m,o⟩,h1⟩:=Sep.cL.1 h1;have r:=Sep.cA.1 h1;refine bw.append r Tl rfl y bu bu (λs' d j f=>g s' d ?_);have e:bO nr q++[Iv a.err,Iv a.n,Sv b]=bO nr (q++[(a,b)]):=by rw[nm,ph];rfl
 rw[e]at f;refine Sep.ex.2 ⟨q++[(a,b)],Sep.cL.2 ⟨⟨by rw[lu,h2];rfl,by rw[j,m,df];rfl,λp hp=>?_⟩,Sep.cA.2 ?_⟩⟩
 ·rcases gb.1 hp with hp|hp;·exact o p hp
  ·rw[h9]at hp;subst hp;exact hk
 ·have t:Sep E (bw s' 3 (bO nr (q++[(a,b)]))::((q.map λp=>bw p.2 1 (bC p.1.bE))++(bD p [Iv a.err,Iv a.n,Sv b]::bw b 1 (bC a.bE)::L))) d:=f;have v:=t.perm (List.Perm.cons _ (jo (a:=bD p [Iv a.err,Iv a.n,Sv b])));have x:=v.swap.tail;rw[lu];show Sep E (bw s' 3 _::(((q.map λp=>bw p.2 1 (bC p.1.bE))++[bw b 1 (bC a.bE)])++L)) d;rw[dp];exact x
def w5(o:db):(dh o).length=5:=rfl
def jb.h0{b c q:Nat}{os:bA db}(d:L[q]?=some (bD b (bO dh os))):jb E L ⟨some ⟨b,0,none⟩,os.length,c⟩ os:=by
 refine⟨rfl,λw h i o ho=>⟨_,rfl,λj u hu=>?_⟩⟩;have a:j<5:=by have:=(c2.1 hu).1;rwa[w5]at this
 rw[cj,cj,h.cellAt q d,fz,tE w5 ho j a];exact hu
def dd.el{s:Sl}{l:bA cG}{i:Int}{k:Nat}{a:cG}{F:Addr->Prop}(q:Nat)(h:Sep E L w)(n:L[q]?=some (dd s l))(m:i=k)(c:l[k]?=some a)(p:∀a0:Addr,w.cell? (a0.add 0)=some (Iv a.err)->w.cell? (a0.add 1)=some (Iv a.n)->F a0):cF s.p s.n i 3 F:=by
 obtain⟨z,h1⟩:=Sep.ex.1 (h.fr q n);obtain⟨⟨h2,g,_⟩,h1⟩:=Sep.cL.1 h1;have j:=Sep.cA.1 h1;obtain⟨y,o,d⟩:∃y,z[k]?=some y/\y.1=a:=by
  rw[<- h2,ez]at c;cases f:z[k]? with
  |none=>rw[f]at c;cases c
  |some y=>rw[f]at c;exact⟨y,rfl,cV c⟩
 have hn:s.n=z.length:=by rw[g,<- h2,dY]
 refine jL w4 0 j rfl hn m o (λb _ e=>p _ ?_ ?_);·rw[cj,<- d];exact e 0 _ rfl
 ·rw[cj,<- d];exact e 1 _ rfl
def dd.len{s:Sl}{l:bA cG}(q:Nat)(h:Sep E L w)(a:L[q]?=some (dd s l)):s.n=l.length:=by
 obtain⟨z,h1⟩:=Sep.ex.1 (h.fr q a);exact(Sep.cL.1 h1).1.2.1
def Vok.new(a b:Int)(l:bS):Vok (Vs.new a b l):=⟨Inv.new a b l,(λi g s h=>by cases h),by show(0:Nat)<=64;decide⟩
def cQ(E:Env)(A:At)(v:Nat)(V:Vs)(L:cr)(w:bI):Prop:=
 ∃(gs us r:Sl) (ps:PS),r.n=ps.length/\plain ps=V.procs/\Sep E (Vm {A with gs:=gs,us:=us} v r V.core ps L) w
def Gq{ps:PS}(m:Vok V)(h:plain ps=V.procs):dH ps:=λi g a s b=>m.sp i g s (by rw[<- h];exact iZ b)
def Tm{ps:PS}(m:Vok V)(h:plain ps=V.procs):ps.length<=64:=by rw[<- kx,h];exact m.eI
def cQ.tail{B:Asn}(h:cQ E A v V (B::L) w):cQ E A v V L w:=by
 obtain⟨gs,us,r,ps,h1,h2,a⟩:=h;exact⟨gs,us,r,ps,h1,h2,(Vm.out a).tail⟩
def cQ.iT{T:Cs}(h:Sep E (Vm A v ⟨none,0,0⟩ T [] L) w):cQ E A v ⟨T,[]⟩ L w:=⟨A.gs,A.us,⟨none,0,0⟩,[],rfl,rfl,h⟩
def cQ.right(h:cQ E A v V L w):Sep E L w:=by
 obtain⟨gs,us,r,ps,h1,h2,a⟩:=h;rw[ug]at a;exact a.right
def cQ.drop(h:cQ E A v V L w):Sep E (cO A.o::L) w:=by
 obtain⟨gs,us,r,ps,h1,h2,a⟩:=h;have b:Sep E (ch {A with gs:=gs,us:=us} V.core++(bD v [Pb A.c,Sv r]::bw r 2 (bO gy ps)::(ps.map gR++L))) w:=a;have c:=b.fr 15 rfl;have d:Sep E (cO A.o::(((ch {A with gs:=gs,us:=us} V.core).take 15++[bD v [Pb A.c,Sv r],bw r 2 (bO gy ps)]++ps.map gR)++L)) w:=by
  refine c.perm ?_;rw[dp,dp];exact HB _
 have e:=d.perm (L':=((ch {A with gs:=gs,us:=us} V.core).take 15++[bD v [Pb A.c,Sv r],bw r 2 (bO gy ps)]++ps.map gR)++(cO A.o::L)) jo.symm;exact e.right
def cQ.cell{k b j:Nat}{cs:bA bH}{c:bH}(h:cQ E A v V L w)(hk:L[k]?=some (bD b cs))(a:cs[j]?=some c):w.cell? (Addr.add ⟨b,0,none⟩ j)=some c:=by
 rw[cj,h.right.cellAt k hk,fz];exact a
def Gr{a:Addr}{x:bH}(h:cQ E A v V L w)(ho:A.o=W.heap)(b:W.cell? a=some x):w.cell? a=some x:=by
 have:=h.drop;rw[ho]at this;exact sm (q:=0) this rfl b
def gk(a:cG)(b:Sl):bA bH:=[Iv a.err,Iv a.n,Sv b]
def cQ.AP(h:cQ E A v V L w)(m:Vok V)(hn:V.core.bt.next+66<16777216)(o:db){K:Ending->bi9}(k:∀(c:Sl) w',c.n=(V.act o).2.bE.length->cQ E A v (V.act o).1 (bw c 1 (bC (V.act o).2.bE)::L) w'->Vok (V.act o).1->(V.act o).1.core.bt.next<=V.core.bt.next+66->
   K (.returned (.agg #[Iv (V.act o).2.err,Iv (V.act o).2.n,Sv c])) w'):Calls P la #[Pb v,.agg (dh o).toArray] w K:=by
 obtain⟨gs,us,r,ps,h1,h2,x⟩:=h;have eI:=m.eI;have y:(⟨V.core,plain ps⟩:Vs)=V:=by cases V;dsimp only at h2;rw[h2]
 refine use (AN o (Gq m h2) h1 (Tm m h2) m.inv bu x) ?_;rintro _ w' ⟨p,e,u,r',c,cN,rfl,t,n,j,b,d,f⟩;have l:=p.inv m.inv bu;rw[y]at b d f l ⊢;exact k c w' d ⟨e,u,r',cN,n,b,f⟩ ⟨l.1,λi g s q=>by rw[<- b]at q;obtain⟨a,z⟩:=SO q;exact t i g a s z,by rw[<- b,kx];exact j⟩ bu
def cQ.hV(h:cQ E A v V L w)(m:Vok V)(hn:V.core.bt.next+66<16777216)(o:db){T:bZ}{F:Int->Int->Sl->Addr->bi9}(k:∀(a:Sl) p w',a.n=(V.act o).2.bE.length->cQ E A v (V.act o).1 (bD p (gk (V.act o).2 a)::bw a 1 (bC (V.act o).2.bE)::L) w'->Vok (V.act o).1->(V.act o).1.core.bt.next<=V.core.bt.next+66->F (V.act o).2.err (V.act o).2.n a ⟨p,0,none⟩ w'):
  Calls P la #[Pb v,.agg (dh o).toArray] w λe d=>∃x:Int,∃y:Int,∃s:Sl,e=.returned (.agg #[Iv x,Iv y,Sv s])/\
   Al (.cells #[Iv 0,Iv 0,aP8] T) (λp w2=>k5 [Iv x,Iv y,Sv s] p (λb=>F x y s p b) w2) d:=by
 refine h.AP m hn o (λa d c h1 l n=>⟨_,_,a,rfl,?_⟩);obtain⟨gs,us,r,ps,f,g,i⟩:=h1;refine Al.i i (λp w2 h2=>ey _ h2 rfl (λb j=>k a p b c ⟨gs,us,r,ps,f,g,Vm.eK j⟩ l n))
def jc(W:bI)(l:Sl)(os:bA db):Prop:=l.n=os.length/\∀(i:Nat) o,os[i]?=some o->∃a,l.p=some a/\∀(j:Nat) x,(dh o)[j]?=some x->W.cell? ((a.add (i*5)).add j)=some x
def cQ.op{l:Sl}{os:bA db}(b:jc W l os)(ho:A.o=W.heap)(h:cQ E A v V L w){k:Nat}{o:db}(hk:os[k]?=some o){F:Addr->Prop}(f:∀a,(∀(j:Nat) x,(dh o)[j]?=some x->∀ {V':Vs} {L':cr} {w':bI},cQ E A v V' L' w'->w'.cell? (a.add j)=some x)->F a):cF l.p l.n (k:Int) 5 F:=by
 obtain⟨a,hp,c⟩:=b.2 k o hk;have e:=(c2.1 hk).1;have d:=b.1;refine⟨a,hp,⟨bu,bu⟩,?_⟩;rw[dt];exact f _ (λj x hx V' L' w' h'=>Gr h' ho (c j x hx))
def cQ.procs(h:cQ E A v V L w)(m:Vok V){K:Ending->bi9}(k:∀(l:Sl) w',l.n=V.pr.length->cQ E A v V (fy l V.pr::L) w'->K (.returned (Sv l)) w'):Calls P oB #[Pb v] w K:=by
 obtain⟨gs,us,r,ps,h1,h2,b⟩:=h;have eI:=Tm m h2;refine use (SV (Gq m h2) h1 bu b) ?_;rintro _ w' ⟨l,rfl,hl,a⟩;have e:(plain ps).map fk=V.pr:=by rw[h2,so]
 rw[e]at hl a;exact k l w' hl ⟨gs,us,r,ps,h1,h2,a⟩
def cQ.space{pid:Int}(h:cQ E A v V L w){K:Ending->bi9}(k:∀x:cm,x.isNone=(V.space pid).isNone->K (.returned (.pointer x)) w):Calls P p7 #[Pb v,Iv pid] w K:=by
 obtain⟨gs,us,r,ps,h1,h2,d⟩:=h;have b:(⟨V.core,plain ps⟩:Vs)=V:=by cases V;dsimp only at h2;rw[h2]
 refine use (Gf (pid:=pid) h1 d) ?_;rintro _ w' ⟨e,rfl⟩;rcases e with⟨i,a,g,s,rfl,f,rfl⟩|⟨c,rfl⟩
 ·refine k _ ?_;have:=(iY (V:=⟨V.core,plain ps⟩) (iZ f)).1;rw[b]at this;rw[this];rfl
 ·refine k _ ?_;rw[b]at c;rw[c];rfl
def cQ.core(h:cQ E A v V L w){K:Ending->bi9}(k:K (.returned (Pb A.c)) w):Calls P vx #[Pb v] w K:=by
 obtain⟨gs,us,r,ps,h1,h2,a⟩:=h;refine use (aKt a) ?_;rintro _ w' ⟨rfl,rfl⟩;exact k
end Go.Mp
namespace Go.Mp
open Go Go.Vc Go.Sp Go.Proofs Go.Kc
def Tn{α:Type}{n:Nat}{R:Nat->α->Prop}(h:∀i,i<n->∃x,R i x):∃l:bA α,l.length=n/\∀i x,l[i]?=some x->R i x:=by
 induction n with
 |zero=>exact⟨[],rfl,λi x hx=>by simp at hx⟩
 |succ n d=>
  obtain⟨l,hl,hr⟩:=d (λi b=>h i bu);obtain⟨x,hx⟩:=h n bu;refine⟨l++[x],by simp[hl],λi y a=>?_⟩;rcases hE i n with b|b;·rw[eQ bu]at a;exact hr i y a
  ·have c:=(c2.1 a).1;have:i=n:=by simp[hl]at c;omega
   subst this;rw[fL bu,hl,iE]at a;rw[<- cV a];exact hx
end Go.Mp
namespace Go.Mp
open Go Go.Vc Go.Sp Go.Proofs Go.Kc Go.Kw
def aLK{W:bI}{v:bH}(h:Rd P W Cy [v]):∃(l:Sl) (xs:bA db),v=Sv l/\jc W l xs:=by
 obtain⟨p,n,c,rfl,_,_,o⟩:=h.nY (e:=p4) cE;have key:∀i,i<n->∃x:db,∃a,p=some a/\∀(j:Nat) v,(dh x)[j]?=some v->W.cell? ((a.add (i*5)).add j)=some v:=by
  intro i g;obtain⟨a,es,rfl,hl,b,hr⟩:=o i g;have m:P.cellsOf p4=5:=by kernel_rfl
  rw[m]at b hl;have hf:=hr.leaves 3 (ts:=[pd,gu,gu,gu,gu]) cE
  match es,hl,hf with
  |[v0,v1,v2,v3,v4],_,⟨q,r,s,t,u,_⟩=>
  obtain⟨k,rfl,_⟩:=q.jy (k:=.i64) cE;obtain⟨w,rfl,_⟩:=r.jy (k:=.i64) cE;obtain⟨y,rfl,_⟩:=s.jy (k:=.i64) cE;obtain⟨z,rfl,_⟩:=t.jy (k:=.i64) cE;obtain⟨A,rfl,_⟩:=u.jy (k:=.i64) cE;refine⟨⟨k,w,y,z,A⟩,a,rfl,λj v d=>?_⟩;have f:j<5:=(c2.1 d).1;rw[b j f];exact d
 obtain⟨xs,hl,hx⟩:=Tn key;exact⟨⟨p,n,c⟩,xs,rfl,hl.symm,hx⟩
end Go.Mp
namespace Go.Sp
open Go Go.Vc Go.RowKit Go.ChangeShapes
section
variable{H:Type}{enc:bZ×bH->H}
def AQ{C:Checked}{os:Os}{f:bj6}{fn:Func}{s:ChangeSpec}{conds:bA PathCond}{apart fresh handsOn:Bool}{tb:bZ}{X:bi9}(G:∀(w w':bI),w.heap=w'.heap->X w->X w')(own:ownKnob C.prog.godebug=none)(started:os.Started)(c:C.prog.inits.idxOf? f=none)(z:C.prog.funcs[f]?=some fn)(witness:∃(w:bI) (tape:Tape) (i:Input),w.os=os/\(w.forCall tape i).Shaped C.prog/\i.vars= []/\Input.okWide C.prog (w.forCall tape i) .any w.heap.size f i/\
   ((s.pre enc C.prog fn conds apart (w.forCall tape i).memory i.args/\X (w.forCall tape i).memory)/\sizedMet enc C.prog fn (OpenSpec.ofChange s) apart (w.forCall tape i).memory i.args)/\Assume.holds {} C.prog (lone (Frame.enter C.prog f i.args .normal) [] (w.forCall tape i)))(hl:laidOutB C.prog=true)(d:(fn.params.toList.all λt=>C.prog.readableRec t&&Nat.blt t C.prog.types.size)=true)(k:varsRowed C.prog s.vars=true)(n:fn.resultTypes.toList= [tb])(F:C.prog.underlying tb=some .bool)(g:∀b gs:bA (DataW H),b.length=fn.params.size->gs.length=s.vars.length->s.fn H (b++gs)= {results:=[.lit (.bool true)],args:=b,vars:=gs})(a:∀(W:bI) (base:Nat) (args:cf bH),args.size=fn.params.size->(∀(j:Nat) t v,fn.params[j]?=some t->args[j]?=some v->Rd C.prog W t v.cells.toList/\Value.okWide C.prog W .any base t v)->W.ShapedOpen C.prog->X W->
   Calls C.prog f args W (cC λv r=>v=.bool true/\Below W.heap.size W r)):
  ReturnsInHanded {} C os f .any (λw args=>(s.pre enc C.prog fn conds apart w args/\X w)/\sizedMet enc C.prog fn (OpenSpec.ofChange s) apart w args) (s.post enc C.prog fn apart fresh handsOn false):=by
 refine returnsInHanded_of_calls own started c witness ?_;intro w tape i _ D _ B m A;obtain⟨_,_,_,u,l,_,_,_,_,o⟩:=B;have e:u=fn:=cV (l.symm.trans z);subst e;obtain⟨⟨⟨b,gs,before,hw,M⟩,hx⟩,N⟩:=m;have y:=DataW.Whole.of_heap (w':=w.forCall tape i) (by rfl) hw;obtain⟨p,q,x,L,K,I,J⟩:=id y;refine(a (w.forCall tape i) w.heap.size i.args (by have:=(Es x).1;simpa using this) (λj t v E h=>⟨N1 x j t v (by simpa using E) (by simpa using h),o j t v E h⟩) D (G _ _ (by rfl) hx)).mono λe r ⟨v,he,h,hb⟩=>?_;subst he;subst h;exact ChangeSpec.post_blind (ZP hl d k n F (g b gs) y hb)
end
end Go.Sp
namespace Go
def ui(P:cS)(fn:Func)(s:ChangeSpec)(c:OpenClaim):Bool:=
 c.wf (OpenSpec.ofChange s)&&laidOutB P&&mapsRowed P&&fn.params.all (P.readableRec ·)&&namedTie P c.named s.vars
def uj(P:cS)(f:bj6)(c:OpenClaim):Bool:=
 (c.stops== [])&&(P.stops== [])&&(c.knobs== [])&&(P.stopKnobs== [])&&(c.inPlace==P.inPlace f)
def uk(P:cS)(f:bj6)(c:OpenClaim):Bool:=c.unfollowed==P.unfollowed f
def um(P:cS)(f:bj6)(c:OpenClaim):Bool:=c.recurses==P.recurses f
def uo(P:cS)(f:bj6)(c:OpenClaim):Bool:=c.named==P.varsNamed f
def uq(P:cS)(fn:Func)(s:ChangeSpec)(c:OpenClaim):Bool:=
 (c.maps==(fn.params.toList++s.plain.varTypes P).any (P.mapsRec ·))&&(c.ifaces==(fn.params.toList++s.plain.varTypes P).any (P.ifacesRec ·))&&(c.mapsOut==P.mapsAmong fn.resultTypes.toList)&&
 (c.loops==(fn.params.toList++s.plain.varTypes P).any (P.loopsFrom ·))&&(c.wideKeys==(fn.params.toList++s.plain.varTypes P++fn.resultTypes.toList).any (P.wideKeysFrom ·))
def ur(P:cS)(fn:Func)(s:ChangeSpec)(c:OpenClaim):Bool:=
 s.vars.all (P.varReadable ·)&&fn.resultTypes.all (λt=>P.readableRec t&&decide (t<P.types.size))&&(c.ifacesOut==fn.resultTypes.toList.any (P.ifacesRec ·))&&(c.loopsOut==fn.resultTypes.toList.any (P.loopsFrom ·))&&(c.plainKeys==P.plainKeys)&&c.shortTexts.isNone
def uu(P:cS)(c:OpenClaim):Bool:=P.stopsHeard&&P.mayEnter&&(c.lifted==P.liftsFinal)&&(P.make==some c.make)
def uv(P:cS)(fn:Func)(s:ChangeSpec)(c:OpenClaim):Bool:=
 (c.kinds==(if c.domain.isEmpty then[]else fn.params.toList.map λt=>match P.underlying t with|some (.int k)=>some k|_=>none))&&(c.pinned==c.pinnedBy)&&
 (c.veiled==(fn.params.toList++s.plain.varTypes P++fn.resultTypes.toList).any (P.veiledRec ·))&&c.veiledFits P fn.params.toList (fn.params.toList++s.plain.varTypes P++fn.resultTypes.toList)
def AR{P:cS}{f:bj6}{fn:Func}{s:ChangeSpec}{c:OpenClaim}(a:ui P fn s c=true)(hB:uj P f c=true)(h:uk P f c=true)(i:um P f c=true)(j:uo P f c=true)(b:uq P fn s c=true)(d:ur P fn s c=true)(e:uu P c=true)(g:uv P fn s c=true):
  joinedFacts P f fn s c=true:=by
 unfold ui at a;unfold uj at hB;unfold uk at h;unfold um at i;unfold uo at j;unfold uq at b;unfold ur at d;unfold uu at e;unfold uv at g;unfold joinedFacts;simp only[dF]at a hB b d e g ⊢;obtain⟨⟨⟨⟨k,l⟩,a3⟩,a4⟩,a5⟩:=a;obtain⟨⟨⟨⟨b1,b2⟩,b3⟩,b4⟩,b5⟩:=hB;obtain⟨⟨⟨⟨f1,f2⟩,f3⟩,f4⟩,f5⟩:=b;obtain⟨⟨⟨⟨⟨m,n⟩,o⟩,p⟩,q⟩,r⟩:=d;obtain⟨⟨⟨h1,h2⟩,t⟩,u⟩:=e;obtain⟨⟨⟨i1,i2⟩,i3⟩,i4⟩:=g;exact⟨⟨⟨⟨⟨⟨⟨⟨⟨⟨⟨⟨⟨⟨⟨⟨⟨⟨⟨⟨⟨⟨⟨⟨⟨⟨⟨⟨⟨⟨⟨k,l⟩,a3⟩,a4⟩,a5⟩,b1⟩,b2⟩,b3⟩,b4⟩,b5⟩,h⟩,i⟩,j⟩,f1⟩,f2⟩,f3⟩,f4⟩,f5⟩,m⟩,n⟩,o⟩,p⟩,q⟩,r⟩,h1⟩,h2⟩,t⟩,u⟩,i1⟩,i2⟩,i3⟩,i4⟩
end Go
namespace Go.Proofs.YtafigbgagbolgaaGreatDoor
open Go Go.Vc Go.Sp Go.Mp Go.RowKit Go.ChangeShapes
def own:ownKnob P.godebug=none:=by kernel_rfl
def laidOut:laidOutB P=true:=by kernel_rfl
def wf_i64{n:Int}(h:(Lit.int .i64 n).wf=true): -9223372036854775808<=n/\n<=9223372036854775807:=by
 simpa[Lit.wf,IntKind.has,IntKind.min,IntKind.max,IntKind.signed,IntKind.bits]using h
def oJ{W:bI}{base:Nat}{v:bH}(h:Rd P W gu v.cells.toList/\Value.okWide P W .any base gu v):∃n,v=.int .i64 n/\ -9223372036854775808<=n/\n<=9223372036854775807:=by
 obtain⟨h1,h2⟩:=h;rw[N0 h2 cE]at h1;obtain⟨n,a,b⟩:=h1.jy (k:=.i64) cE;exact⟨n,a,wf_i64 b⟩
def w6{t:bZ}{W:bI}{base:Nat}{v:bH}(a:eB P t=some false)(h:Rd P W t v.cells.toList/\Value.okWide P W .any base t v):Rd P W t [v]:=by
 obtain⟨h1,h2⟩:=h;rw[N0 h2 a]at h1;exact h1
def AS{W:bI}{base:Nat}{v:bH}(h:Rd P W Cy v.cells.toList/\Value.okWide P W .any base Cy v):∃(l:Sl) (xs:bA Kw.db),v=.slice l.p l.n l.c/\jc W l xs:=
 aLK (w6 cE h)
abbrev jP:bA (String×DataW Unit):=Rows.vmSpawnsRow.laid
def AT(os:Os)(args:cf bH):laidMetH P jP ((World.laidAll P os jP).forCall (λ_ _=>0) ⟨#[],args,[]⟩).memory:=by
 rw[MakeChecks.laidMetH_plain _ _ _ cE];exact laidMet_laidAll _ cE cE
def To:P.globalNamed "math/bits.deBruijn64tab" =some 2:=by kernel_rfl
def aLQ{W:bI}(h:laidMetH P jP W):∃o,W.heap[2]?=some o/\qt o:=by
 rw[MakeChecks.laidMetH_plain _ _ _ cE]at h;have a:Lib.TabIs P W "math/bits.deBruijn64tab" .u8 (Lib.deBruijn64tab.map λn:Nat=>(n:Int)):=
  Lib.tabIs_of_head (t:=355) (e:=Wm) (n:=64) To cE cE cE cE cE h
 unfold Lib.TabIs World.var? at a;rw[To,Hq]at a;split at a
 ·next c t z d=>
  refine⟨_,d,c,t,z,rfl,λj b=>?_⟩;cases a;have hl:Lib.deBruijn64tab.length=64:=by decide
  simp[dC,hl,b]
 ·cases a
def AU{W:bI}(h:laidMetH P jP W):Sep (World.env W) [cO W.heap] W:=Sep.cL.2 ⟨aLQ h,Sep.start W⟩
def AV{W w':bI}(h:Sep (World.env W) [cO W.heap] w'):Below W.heap.size W w':=(Sep.cL.1 h).2.below (i:=0) rfl
end Go.Proofs.YtafigbgagbolgaaGreatDoor
namespace Go.Kc
open Go Go.Kt
variable{S T:Cs}
inductive Path:Nat->Cs->Cs->Prop
 |nil (n:Nat) (S:Cs):Path n S S
 |act {n:Nat} {S T:Cs} (x:Act) (hx:3<=x.k/\x.k<=11):Path n S T->Path (n+grow x) S (T.act x).1
def Path.runs{n:Nat}(h:Path n S T):cw n S T:=by
 induction h with
 |nil n=>exact .nil n _
 |act x _ _ a=>exact .act x a
def Path.up{n m:Nat}(h:Path n S T)(k:n<=m):Path m S T:=by
 induction h generalizing m with
 |nil n=>exact .nil m _
 |act x hx h a=>
  obtain⟨j,rfl⟩:∃j,m=j+grow x:=⟨m-grow x,bu⟩
  exact .act x hx (a bu)
def Path.trans{n m:Nat}{U:Cs}(h:Path n S T)(k:Path m T U):Path (n+m) S U:=by
 induction k with
 |nil m=>exact h.up (Nat.le_add_right _ _)
 |act x hx k a=>rw[<- uR];exact .act x hx (a h)
def Path.inv{n:Nat}(h:Path n S T)(a:Inv S)(hn:S.bt.next+n<=16777216):Inv T/\S.bt.next<=T.bt.next/\T.bt.next<=S.bt.next+n:=h.runs.inv a hn
def Path.one(k a b c kf ki:Int)(hx:3<=k/\k<=11):Path (grow ⟨k,a,b,c,kf,ki⟩) S (S.act ⟨k,a,b,c,kf,ki⟩).1:=by
 have:=Path.act ⟨k,a,b,c,kf,ki⟩ hx (Path.nil 0 S);rwa[fz]at this
def Path.fresh(g:Int):Path 1 S (S.fresh g).1:=Path.one 3 g 0 0 0 0 bN
def Path.cH(k:Int×Int)(g:Int):Path 1 S (S.cH k g).1:=Path.one 4 g 0 0 k.1 k.2 bN
def Path.bY(id g:Int):Path 0 S (S.bY id g).1:=Path.one 5 g id 0 0 0 bN
def Path.copy(id g:Int):Path 1 S (S.copy id g).1:=Path.one 6 g id 0 0 0 bN
def Path.get(id a:Int):Path 0 S (S.get id a).1:=Path.one 8 a id 0 0 0 bN
def Path.bP(id n:Int):Path 0 S (S.bP id n).1:=Path.one 9 0 id n 0 0 bN
def Path.dD(t:Int):Path 0 S (S.dD t).1:=Path.one 10 t 0 0 0 0 bN
def Path.shrink(t n:Int):Path 0 S (S.shrink t n).1:=Path.one 11 t 0 n 0 0 bN
def Path.put(id a:Int)(b:UInt8):Path 0 S (S.put id a b).1:=by
 have h:=Path.one (S:=S) 7 a id (b.toNat:Int) 0 0 bN;have e:(S.act ⟨7,a,id,(b.toNat:Int),0,0⟩).1=(S.put id a (mI (b.toNat:Int))).1:=rfl;have c:mI (b.toNat:Int)=b:=by
  unfold mI;have:=b.toNat_lt;rw[show((b.toNat:Int)%256).toNat=b.toNat by omega];exact UInt8.ofNat_toNat
 rw[e,c]at h;exact h
end Go.Kc
namespace Go.Kw
open Go Go.Kc Go.Kt
def w7:∀(ids:bS) (S:Cs),Path 0 S (ep ids S)
 |[],S=>.nil 0 S
 |x::r,S=>(Path.bP (S:=S) x (-1)).trans (w7 r (S.bP x (-1)).1)
def Gs:∀(ids:bS) (S:Cs),Path 0 S (dN ids S)
 |[],S=>.nil 0 S
 |x::r,S=>(Path.bP (S:=S) x 1).trans (Gs r (S.bP x 1).1)
def Tq(V:Vs)(pid:Int):Path 0 V.core (V.exit pid).core:=by
 cases h:V.space pid with
 |none=>rw[Ga h];exact .nil 0 _
 |some s=>rw[wW h];exact w7 _ _
def Gt:∀(l:bS) (V:Vs),Path 0 V.core (V.dg l).core
 |[],V=>.nil 0 _
 |x::r,V=>(Tq V x).trans (Gt r (V.exit x))
def Ts{f:Cs->Int->Cs×Int×Int×Int}{pid:Int}(hf:∀S g,Path 1 S (f S g).1):∀(n:Nat) (V:Vs) (o:cG),Path n V.core (fH f pid n V o).1.core
 |0,V,o=>.nil 0 _
 |n+1,V,o=>by
  rw[nq];dsimp only;have h1:=hf V.core (V.group pid);generalize f V.core (V.group pid)=r at h1;have a:Path (n+1) V.core r.1:=h1.up bu;split;·exact a
  split;·exact a
  generalize dead {V with core:=r.1} r.2.2.1=d;have h2:=h1.trans (Gt d {V with core:=r.1});split;·exact h2.up bu
  split;·exact h2.up bu
  exact(h2.trans (Ts hf n _ _)).up bu
def AW{f:Cs->Int->Cs×Int×Int×Int}{pid:Int}{V:Vs}(hf:∀S g,Path 1 S (f S g).1)(o:cG):Path (V.procs.length+1) V.core (V.dW f pid o).1.core:=Ts hf _ V o
def w8(V:Vs)(pid p id:Int)(k:Nat)(wr:Bool):(V.enter pid p id k wr).core=(V.core.bP id 1).1:=by
 unfold Vs.enter;dsimp only;split<;>rfl
def Tt{V:Vs}(pid id:Int)(o:cG):Path (V.procs.length+1) V.core (V.bY pid id o).1.core:=AW (λS g=>(Path.bY id g).up bu) o
def Tu{V:Vs}(pid p:Int)(s:Sp)(x:Rg)(o:cG):Path (V.procs.length+1) V.core (V.there pid p s x o).1.core:=by
 unfold Vs.there;split;·exact Tt _ _ _
 ·have h:=AW (V:=V) (f:=λS g=>S.cH (dM x p) g) (pid:=pid) (λS g=>Path.cH _ g) o;dsimp only;split
  ·next id _=>
   show Path _ _ (Vs.enter _ _ _ _ _ _).core;rw[w8];exact h.trans (Path.bP id 1)
  ·exact h
def aI7{V:Vs}(pid p:Int)(s:Sp)(o:cG):Path (V.procs.length+1) V.core (V.own pid p s o).1.core:=by
 unfold Vs.own;split
 ·next e _=>
  dsimp only;split;·exact Tt _ _ _
  have h:=AW (V:=V) (f:=λS g=>S.copy e.id g) (pid:=pid) (λS g=>Path.copy _ g) o;split
  ·next id _=>
   show Path _ _ ((Vs.enter _ _ _ _ _ _).core.bP _ _).1;rw[w8];exact(h.trans (Path.bP id 1)).trans (Path.bP _ (-1))
  ·exact h
 ·have h:=AW (V:=V) (f:=λS g=>S.fresh g) (pid:=pid) (λS g=>Path.fresh g) o;dsimp only;split
  ·next id _=>
   show Path _ _ (Vs.enter _ _ _ _ _ _).core;rw[w8];exact h.trans (Path.bP id 1)
  ·exact h
def AX(V:Vs)(pid p:Int):(V.cq pid p).core=V.core:=by
 unfold Vs.cq;split<;>rfl
def aGL{V:Vs}(pid:Int)(s:Sp)(b:Int):Path (V.procs.length+1) V.core (V.load pid s b).1.core:=by
 unfold Vs.load;dsimp only;split;·exact .nil _ _
 next x _=>
 split;·exact .nil _ _
 split;·exact .nil _ _
 have h:=Tu (V:=V) pid (b/16) s x .zero;split;·exact h
 ·next id _=>
  show Path _ _ (Vs.cq _ _ _).core;rw[AX];exact h.trans (Path.get id (b%16))
def aE9{V:Vs}(pid:Int)(s:Sp)(b c:Int):Path (V.procs.length+1) V.core (V.store pid s b c).1.core:=by
 unfold Vs.store;dsimp only;split;·exact .nil _ _
 split;·exact .nil _ _
 next x _=>
 split;·exact .nil _ _
 split;·exact .nil _ _
 have h:Path (V.procs.length+1) V.core (if x.kind=2 then V.there pid (b/16) s x .zero else V.own pid (b/16) s .zero).1.core:=by
  split;·exact Tu pid (b/16) s x .zero
  ·exact aI7 pid (b/16) s .zero
 generalize (if x.kind=2 then V.there pid (b/16) s x .zero else V.own pid (b/16) s .zero)=r at h;split;·exact h
 ·next id _=>
  show Path _ _ (Vs.cq _ _ _).core;rw[AX];exact h.trans (Path.put id (b%16) _)
def aGl{V:Vs}(s:Sp)(o:db):Path (V.procs.length+1) V.core (V.call s o).1.core:=by
 unfold Vs.call;dsimp only;split;·split<;>exact .nil _ _
 split;·split<;>exact .nil _ _
 split
 ·split;·split<;>exact .nil _ _
  ·exact .nil _ _
 split
 ·split;·exact(w7 _ _).up bu
  ·exact .nil _ _
 split;·exact aGL _ _ _
 split;·exact aE9 _ _ _ _
 split
 ·split;·exact .nil _ _
  ·exact(Gs _ _).up bu
 exact(Tq _ _).up bu
def aIc{V:Vs}{o:db}(ho:o.kind≠0/\o.kind≠1/\o.kind≠2):Path (V.procs.length+1) V.core (V.act o).1.core:=by
 unfold Vs.act;rw[bJ ho.1,bJ ho.2.1,bJ ho.2.2];dsimp only;split
 ·split;·exact .nil _ _
  ·split<;>exact .nil _ _
 split;·exact(Path.dD _).up bu
 split;·exact(Path.shrink _ _).up bu
 split;·exact .nil _ _
 split;·exact .nil _ _
 ·exact aGl _ _
end Go.Kw
namespace Go.Kc
open Go Go.Kt Go.Sp
variable{S S' T:Cs}{id g:Int}
def kr(p:Pg):Int×Int×Int:=(p.kf,p.ki,p.refs)
structure Base(S S':Cs):Prop where
 tree:S'.tree=S.tree
 guards:S'.guards=S.guards
 bU:S'.files.bU=S.files.bU
def Base.refl(S:Cs):Base S S:=⟨rfl,rfl,rfl⟩
def Base.trans{A B C:Cs}(h:Base A B)(k:Base B C):Base A C:=⟨k.tree.trans h.tree,k.guards.trans h.guards,k.bU.trans h.bU⟩
def Base.live(h:Base S S')(g:Int):S'.live g=S.live g:=by unfold Cs.live;rw[h.tree]
def Base.has(h:Base S S')(k:Int×Int):eo S'.files k=eo S.files k:=by unfold eo nL;rw[h.bU]
structure gH(S S':Cs):Prop extends Base S S' where
 kr:∀x,(S'.bt.pg x).map kr=(S.bt.pg x).map kr
def gH.refl(S:Cs):gH S S:=⟨Base.refl S,λ_=>rfl⟩
def gH.bL(h:gH S S'){p:Pg}(hp:S.bt.pg id=some p):∃q,S'.bt.pg id=some q/\q.kf=p.kf/\q.ki=p.ki/\q.refs=p.refs:=by
 have:=h.kr id;rw[hp]at this;cases a:S'.bt.pg id with
 |none=>rw[a]at this;cases this
 |some q=>
  rw[a]at this;have e:Kc.kr q=Kc.kr p:=cV this;unfold Kc.kr at e;simp only[oU]at e;exact⟨q,rfl,e⟩
def gH.none_(h:gH S S'):S'.bt.pg id=none↔S.bt.pg id=none:=by
 have:=h.kr id;cases a:S'.bt.pg id<;>cases hp:S.bt.pg id<;>rw[a,hp]at this<;>simp at this ⊢
def gH.of(h:Base S S')(hp:∀x,S'.bt.pg x=S.bt.pg x):gH S S':=⟨h,λx=>by rw[hp]⟩
structure Made(S S':Cs)(id:Int):Prop extends Base S S' where
 new:S.bt.pg id=none
 bL:∃p,S'.bt.pg id=some p/\p.refs=0
 Tv:∀x,x≠id->(S'.bt.pg x).map kr=(S.bt.pg x).map kr
def Kept.gS(h:Kept S S'):gH S S':=by
 refine⟨⟨h.tree,h.guards,h.bU⟩,λx=>?_⟩;cases hp:S.bt.pg x with
 |none=>rw[h.none_ x hp]
 |some p=>
  obtain⟨q,d,a,b,_,c,_⟩:=h.bL x p hp;rw[d];unfold Kc.kr;simp only[fC,a,b,c]
def eT.gS(h:eT S S')(a:Inv S):gH S S':=(h.kept a).gS
def Inv.kb(h:Inv0 S):S.bt.pg S.bt.next=none:=by
 cases hp:S.bt.pg S.bt.next with
 |none=>rfl
 |some p=>have:=h.cI.ids _ _ hp;omega
inductive Tw(S:Cs)(id g:Int):Prop
 |ok (p:Pg) (hp:(S.bY id g).1.bt.pg id=some p) (h1:p.place=1) (he:(S.bY id g).2=(-1,0)) (hl:S.live g=true)
 |mem (he:(S.bY id g).2.2=12) (hl:S.live g=true) (hp:(S.bt.pg id).isSome=true)
 |bad (he:S.bY id g=(S, -1,2)) (hb:S.bt.pg id=none\/S.live g=false)
def Tx(h:Inv0 S)(b:∀x p,S.bt.pg x=some p->p.kf<0->p.place≠0)(id g:Int):gH S (S.bY id g).1/\Tw S id g:=by
 have c:Inv S:=⟨h,b⟩
 cases hp:S.bt.pg id with
 |none=>have e:=p3 (g:=g) h (.inl hp);rw[e];exact⟨gH.refl S,.bad e (.inl hp)⟩
 |some p=>
  cases hl:S.live g with
  |false=>have e:=p3 (id:=id) h (.inr (.inl hl));rw[e];exact⟨gH.refl S,.bad e (.inr hl)⟩
  |true=>
   have d:¬ (p.place=0/\p.kf<0):=λe=>b _ _ hp e.2 e.1;by_cases h1:p.place=1
   ·have e:=ye h hp h1 hl;refine⟨by rw[e];exact gH.of ⟨rfl,rfl,rfl⟩ (λ_=>rfl),.ok p (by rw[e];exact hp) h1 (by rw[e]) hl⟩
   ·rcases vq h b hp hl d h1 with⟨S0,a,k,f⟩|⟨S0,t,k,he⟩
    ·have s:=k.took.outs.gS c;refine⟨⟨⟨k.tree,k.guards,by rw[k.files];exact s.bU⟩,λx=>?_⟩,.ok {p with owner:=if p.place=0 then g else p.owner,place:=1,at_:=a} (by rw[k.pg,bK rfl]) rfl k.Cl hl⟩;rw[k.pg];by_cases e:x=id;·subst e;rw[bK rfl,hp];rfl
     ·rw[bJ e];exact s.kr x
    ·refine⟨by rw[he];exact k.outs.gS c,.mem (by rw[he]) hl (by rw[hp];rfl)⟩
def Inv.h6(h:Inv S)(id g:Int):gH S (S.bY id g).1/\Tw S id g:=Tx h.toInv0 h.anon id g
inductive Gu(S:Cs)(g:Int)(bad:Prop)(r:Cs×Int×Int×Int):Prop
 |ok (p:Pg) (hm:Made S r.1 r.2.1) (hp:r.1.bt.pg r.2.1=some p) (h1:p.place=1) (hk:p.kf<0) (he:r.2.2.2=0) (hl:S.live g=true)
 |mem (s:gH S r.1) (he:r.2.2.2=12) (hl:S.live g=true) (hn:¬ bad)
 |bad (he:r=(S, -1, -1,2)) (hb:bad\/S.live g=false)
def Ty(h:Inv S)(hn:S.bt.next<16777216){B:Prop}(hb:¬ B)(hl:S.live g=true)(text:bA UInt8):Gu S g B (S.di g text):=by
 rcases yd h hn hl text with⟨S0,a,k,he,d,c⟩|⟨S0,t,k,he⟩
 ·have s:=k.outs.gS h;have h1:(S.di g text).2.1=S.bt.next:=by rw[he]
  have b:(S.di g text).1.bt.pg S.bt.next=some ⟨-1,S.bt.next,1,a,g,0,0,false,false⟩:=by rw[c,bK rfl]
  refine .ok _ ?_ (h1▸b) rfl (by show(-1:Int)<0;decide) (by rw[he]) hl;rw[h1];refine⟨⟨by rw[he];exact s.tree,by rw[he];exact s.guards,by rw[he];exact s.bU⟩,Inv.kb h.toInv0,⟨_,b,rfl⟩,λx hx=>?_⟩;rw[c,bJ hx];exact s.kr x
 ·exact .mem (by rw[he];exact k.outs.gS h) (by rw[he]) hl hb
def Inv.kc(h:Inv S)(hn:S.bt.next<16777216)(g:Int):Gu S g False (S.fresh g):=by
 cases hl:S.live g with
 |false=>exact .bad (by unfold Cs.fresh;rw[bK hl]) (.inr hl)
 |true=>
  have e:S.fresh g=S.di g By.zs:=by unfold Cs.fresh;rw[bJ (by rw[hl];decide)]
  rw[e];exact Ty h hn (λx=>x) hl _
def Inv.ml(h:Inv S)(hn:S.bt.next<16777216)(x g:Int):Gu S g (¬ ∃p,S.bt.pg x=some p/\p.place≠0) (S.copy x g):=by
 unfold Cs.copy;dsimp only;split
 ·next hb=>
  refine .bad rfl ?_;rcases hb with hb|hb|hb
  ·refine .inl ?_;rintro⟨p,hp,_⟩;rw[h.bL hp]at hb;exact hb rfl
  ·exact .inr hb
  ·refine .inl ?_;rintro⟨p,hp,a⟩;rw[h.bL hp]at hb;exact a hb
 ·next hb=>
  rw[pP,pP]at hb;have hl:S.live g=true:=by simpa using hb.2.1
  refine Ty h hn (λhB=>hB ?_) hl _;cases hp:S.bt.pg x with
  |none=>
   exfalso;have:=hb.1;unfold TS.get at this;rw[hp]at this;exact this bN
  |some p=>
   rw[h.bL hp]at hb;exact⟨p,rfl,hb.2.2⟩
inductive aL1(S:Cs)(k:Int×Int)(g:Int)(r:Cs×Int×Int×Int):Prop
 |ok (p:Pg) (hm:(gH S r.1/\(S.bt.pg r.2.1).isSome=true)\/Made S r.1 r.2.1) (hp:r.1.bt.pg r.2.1=some p) (h1:p.place=1) (hk:(p.kf,p.ki)=k/\0<=p.kf) (he:r.2.2.2=0)
 |mem (s:gH S r.1) (he:r.2.2.2=12) (hl:S.live g=true) (hf:eo S.files k=true)
 |bad (he:r=(S, -1, -1,2)) (hb:eo S.files k=false\/S.live g=false)
def Inv.kX(h:Inv S)(hn:S.bt.next<16777216)(k:Int×Int)(g:Int):aL1 S k g (S.cH k g):=by
 unfold Cs.cH;dsimp only;split;·next hb=>exact .bad rfl hb
 next B=>
 have hl:S.live g=true:=by
  cases n:S.live g with
  |true=>rfl
  |false=>exact absurd (.inr n) B
 have hf:eo S.files k=true:=by
  cases n:eo S.files k with
  |true=>rfl
  |false=>exact absurd (.inl n) B
 by_cases hm:S.bt.of k<0
 ·rw[dK hm];simp only[g4];obtain⟨kf,ki⟩:=k;have j:=yf hf;have l:=rT S.bt (kf:=kf) (ki:=ki) (o:=g) ⟨h.cI.next,hn⟩ (.inr hm);rw[show(S.bt.make kf ki g).2.1=S.bt.next by rw[l.1]];have z:=h.toInv0.make hn (kf:=kf) (ki:=ki) hl (.inr ⟨hm,hf⟩);have r:hj S.bt kf ki=(kf,ki):=by unfold hj;rw[bJ (by have:0<=kf:=j;omega)]
  have hp:(S.bt.make kf ki g).1.pg S.bt.next=some ⟨kf,ki,0,0,g,0,0,false,false⟩:=by rw[l.2.2,bK rfl,r]
  have d:∀x p,(S.bt.make kf ki g).1.pg x=some p->p.kf<0->p.place≠0:=by
   intro x q c v;rw[l.2.2]at c;split at c
   ·rw[<- cV c,r]at v;have:kf<0:=v;have:0<=kf:=j;omega
   ·exact h.anon _ _ c v
  obtain⟨s,b⟩:=Tx (S:={S with bt:=(S.bt.make kf ki g).1}) z d S.bt.next g;have u:∀x,x≠S.bt.next->((Cs.bY {S with bt:=(S.bt.make kf ki g).1} S.bt.next g).1.bt.pg x).map kr=(S.bt.pg x).map kr:=λx hx=>by
   rw[s.kr x];show((S.bt.make kf ki g).1.pg x).map kr=_;rw[l.2.2,bJ hx]
  have i:Base S (Cs.bY {S with bt:=(S.bt.make kf ki g).1} S.bt.next g).1:=⟨s.tree,s.guards,s.bU⟩
  obtain⟨q,c,m,w,y⟩:=s.bL hp;rcases b with⟨p,f,h1,he,_⟩|⟨he,_,_⟩|⟨he,hb⟩
  ·rw[he];dsimp only;rw[bK rfl];rw[c]at f;cases f;exact .ok q (.inr ⟨i,Inv.kb h.toInv0,⟨q,c,y⟩,u⟩) c h1 ⟨by rw[m,w],by rw[m];exact j⟩ rfl
  ·rw[he];rw[bJ bN];have F:q.place=0:=by
    rcases vq (S:={S with bt:=(S.bt.make kf ki g).1}) z d (id:=S.bt.next) (g:=g) hp hl (λe=>by have h1:kf<0:=e.2;have:0<=kf:=j;omega) (by show(0:Int)≠1;decide)with⟨S0,a,b,G⟩|⟨S0,t,b,A⟩
    ·rw[b.Cl]at he;cases he
    ·obtain⟨H,D,_,_,_,_,E⟩:=(b.outs.kept ⟨z,d⟩).bL S.bt.next _ hp;rw[A,D]at c;cases c;rw[E (by show(0:Int)≠1;decide)]
   refine .mem ⟨⟨i.tree,i.guards,i.bU⟩,λx=>?_⟩ rfl hl hf;dsimp only;rw[vr c (by rw[y];exact hh _) F];show(cR _ _ none x).map kr=_;by_cases hx:x=S.bt.next;·subst hx;rw[kn,Inv.kb h.toInv0]
   ·rw[dm _ _ hx];exact u x hx
  ·rcases hb with hb|hb;·rw[show(Cs.mk _ _ _ _ _ _ (S.bt.make kf ki g).1 _ _).bt.pg S.bt.next=_ from hp]at hb;cases hb
   ·have hb:S.live g=false:=hb;rw[hl]at hb;cases hb
 ·rw[dq hm];simp only[lZ,gU];obtain⟨p,hp,hk,C⟩:=I0 h.toInv0 (k:=k) bu;obtain⟨s,b⟩:=h.h6 (S.bt.of k) g;obtain⟨q,c,m,w,y⟩:=s.bL hp;rcases b with⟨p2,f,h1,he,_⟩|⟨he,_,_⟩|⟨he,hb⟩
  ·rw[he];dsimp only;rw[bK rfl];rw[c]at f;cases f;exact .ok q (.inl ⟨s,by rw[hp];rfl⟩) c h1 ⟨by rw[m,w];exact hk,by rw[m];exact C⟩ rfl
  ·rw[he,bJ bN];exact .mem s rfl hl hf
  ·rcases hb with hb|hb;·rw[hp]at hb;cases hb
   ·rw[hl]at hb;cases hb
def aGD(id a:Int):gH S (S.get id a).1:=by
 unfold Cs.get;dsimp only;split;·exact gH.refl S
 ·dsimp only;split;·exact gH.of ⟨rfl,rfl,rfl⟩ (λ_=>rfl)
  ·exact gH.refl S
def aGY(id a:Int)(b:UInt8):gH S (S.put id a b).1:=by
 unfold Cs.put;dsimp only;split;·exact gH.refl S
 ·split
  ·refine⟨⟨rfl,rfl,rfl⟩,λx=>?_⟩;show((S.bt.mark id true).1.pg x).map kr=_;rw[(rS S.bt id true).2.2.2 x,xE];cases S.bt.pg x with
   |none=>rfl
   |some p=>simp only[fC,Function.comp];split<;>rfl
  ·exact gH.refl S
end Go.Kc
namespace Go.Kw
open Go Go.Kc Go.Kt
def AY(a b:Int)(l:bS):(Kc.new a b l).live 0=true:=rfl
def AZ{V:Vs}(h:V.core.live 0=true):V.act ⟨3,0,0,0,0⟩=if 64<=V.procs.length then(V,.bad 3)else({V with procs:=V.procs++[(0,some Sp.new)]},⟨0,V.procs.length,[]⟩):=by
 unfold Vs.act;rw[bJ bN,bJ bN,bJ bN,bK rfl];show(if V.core.live 0=false then _ else _)=_;rw[bJ (by rw[h];decide)]
end Go.Kw
namespace Go.Mp
open Go Go.Vc Go.Sp Go.Proofs Go.Kc Go.Kw Go.Kt
variable{E:Env}{L:cr}{w W:bI}{A:At}{v:Nat}{V:Vs}
def ee:bA db:=[⟨3,0,0,0,0⟩,⟨5,0,2,0,0⟩,⟨9,0,20,7,0⟩,⟨8,0,20,0,0⟩,⟨8,0,21,0,0⟩]
def Gv:(cz (Vs.new 4 4 []) ee).2.map (λa=>(a.err,a.n))= [(0,0),(0,0),(0,0),(0,7),(0,0)]:=by decide+kernel
def ns{k:Nat}{e n:Int}(h: [((0:Int),(0:Int)),(0,0),(0,0),(0,7),(0,0)][k]?=some (e,n)):∃a,(cz (Vs.new 4 4 []) ee).2[k]?=some a/\a.err=e/\a.n=n:=by
 rw[<- Gv,ez]at h;cases b:(cz (Vs.new 4 4 []) ee).2[k]? with
 |none=>rw[b]at h;cases h
 |some a=>rw[b]at h;cases h;exact⟨a,rfl,rfl,rfl⟩
def pD{fr sl:Int}{sz:Sl}{l:bS}{o:cf Obj}(b:Ints E (cO o::L) sz l)(a:sz.n<=sz.c)(h:Sep E (cO o::L) w){K:Ending->bi9}(k:∀(A:At) (v:Nat) w',A.o=o->cQ E A v (Vs.new fr sl l) L w'->K (.returned (Pb v)) w'):Calls P p5 #[Iv fr,Iv sl,Sv sz] w K:=by
 refine use (AO b a h) ?_;rintro _ c ⟨A,v,rfl,ho,h1⟩;exact k A v c ho (cQ.iT h1)
def oK(fr sl:Int)(l:bS):(Vs.new fr sl l).core.bt.next=0:=rfl
def A0(bQ cg:Int)(bU l:Sl)(w:bI):Calls P vw #[Iv bQ,Iv cg,Sv bU,Sv l] w
  (cC λv w'=>v=.bool (decide (bQ>24)||decide (cg>24)||decide (bU.n>40)||decide (l.n>40))/\w'=w):=by
 apply apt;unfold SC;refine gv (λh1=>⟨by rw[dK h1];rfl,rfl⟩) (λh1=>gv (λh2=>⟨by rw[dK h2,Bool.or_true];rfl,rfl⟩) (λh2=>gv (λa=>⟨by rw[dK (show bU.n>40 by omega),Bool.or_true];rfl,rfl⟩) (λa=>⟨?_,rfl⟩)));rw[dq (show ¬ bQ>24 by omega),dq (show ¬ cg>24 by omega),dq (show ¬ bU.n>40 by omega)];simp only[HC];congr 1;simp only[sF];omega
end Go.Mp
namespace Go.Mp
open Go Go.Vc Go.Sp Go.Proofs Go.Kc
variable{E:Env}{L:cr}{w:bI}{A:At}{S:Cs}
def ss(W:bI)(s:Sl)(l:bS):Prop:=s.n=l.length/\s.n<=s.c/\∀(i:Nat) x,l[i]?=some x->∃a,s.p=some a/\W.cell? (a.add i)=some (Iv x)
def ss.ints{W:bI}{s:Sl}{l:bS}{q:Nat}(h:ss W s l)(c:L[q]?=some (cO W.heap)):Ints E L s l:=by
 refine⟨h.1,λw d i x hx=>?_⟩;obtain⟨a,hp,b⟩:=h.2.2 i x hx;exact⟨a,hp,sm d c b⟩
def A1{W:bI}{v:bH}(h:Rd P W jK [v]):∃(s:Sl) (l:bS),v=Sv s/\ss W s l:=by
 obtain⟨p,n,c,rfl,f,_,j⟩:=h.nY (e:=gu) cE;have key:∀i,i<n->∃x:Int,∃a,p=some a/\W.cell? (a.add i)=some (Iv x):=by
  intro i d;obtain⟨a,es,rfl,hl,b,hr⟩:=j i d;have g:P.cellsOf gu=1:=by kernel_rfl
  rw[g]at b hl
  match es,hl,hr with
  |[v0],_,hr=>
  obtain⟨k,rfl,_⟩:=hr.jy (k:=.i64) cE;refine⟨k,a,rfl,?_⟩;have:=b 0 bu;rw[fY,Addr.add,Addr.add]at this;simpa[Addr.add]using this
 obtain⟨xs,hl,hx⟩:=Tn key;exact⟨⟨p,n,c⟩,xs,rfl,hl.symm,f,hx⟩
end Go.Mp
namespace Go.Mp
open Go Go.Vc Go.Sp Go.Proofs Go.Kc Go.Kw Go.Kt
variable{E:Env}{L:cr}{w W:bI}{A:At}{v:Nat}{V:Vs}
def A2{bQ cg:Int}{n m:Nat}(h:(decide (bQ>24)||decide (cg>24)||decide (n>40)||decide (m>40))=false):bQ<=24/\cg<=24/\n<=40/\m<=40:=by
 simp only[Ha,G5]at h;omega
def cQ.dr{f:bi9}(h:cQ E A v V L w)(k:∀w',cQ E A v V L w'->f w'):Dr f w:=by
 obtain⟨gs,us,r,ps,h1,h2,a⟩:=h;exact Dr.i a (λw' b=>k w' ⟨gs,us,r,ps,h1,h2,b⟩)
def cQ.alloc{c:cf bH}{t:bZ}{f:Addr->bi9}(h:cQ E A v V L w)(k:∀b w',cQ E A v V (bD b c.toList::L) w'->f ⟨b,0,none⟩ w'):Al (.cells c t) f w:=by
 obtain⟨gs,us,r,ps,h1,h2,a⟩:=h;exact Al.i a (λb w' d=>k b w' ⟨gs,us,r,ps,h1,h2,Vm.eK d⟩)
end Go.Mp
