/- Part of a proof about the core: of its walks and plain laws. -/
import Derived.Test.YtafigbgagbolgaaGreatDoorC07
set_option linter.all false
set_option maxRecDepth 100000
open Go.IntKind(i64 u64)
universe u
theorem cr{α:Sort u}{a b:α}(h:a=b:=by kernel_rfl):a=b:=h
namespace Go.Mp
open Go Go.Vc Go.Sp Go.Proofs Go.Kc
variable{E:Env}{L:ch}{w W:World}
def Pu:g9 P jB=some (8,1,[Iv 0]):=by kernel_rfl
def Pw{s:Sl}{q:Nat}{l:bU}{x:Int}(b:s.n=l.length)(k:l.length<100000000)(h:Sep E (bE q [Iv x]::bC s 1 (bD l)::L) w){G:Sl->bh6}(g:∀s' a,s'.n=(l++[x]).length->Sep E (bC s' 1 (bD (l++[x]))::L) a->G s' a):
  ∃f:Sl,∃a,Sem.run P (Builtin.append_ #[jB,jB] jB #[Sv s,.slice (some ⟨q,0,none⟩) 1 1]) w=.ok (Sv f) a/\G f a:=by
 have j:=Src.bE (n:=1) (c:=1) h (i:=0) rfl Pu rfl (λu hu=>by simp at hu;rw[hu];rfl);have e:bD (l++[x])=bD l++[Iv x]:=by simp[bD]
 refine bC.append h.swap Pu rfl j bA (by rw[b];omega) (λs' a d h1=>?_);refine g s' a (by rw[d,b];simp) ?_;rw[e];exact(h1.fr 0 rfl).ro 2 [0] rfl
def k2(k:Int×Int):Value:=.agg #[Iv k.1,Iv k.2]
def aHe(a b:Int×Int)(h:k2 a=k2 b):a=b:=by
 obtain⟨c,d⟩:=a;obtain⟨b1,b2⟩:=b;simpa[k2]using h
def Px:hM P yf k2:=hM.agg (d:=3) (l:=[.int .i64,.int .i64]) aHe cr bO cr (λk=>by
 unfold Typed;rw[show dW P yf=some true by kernel_rfl];exact⟨_,rfl,⟨_,rfl⟩,⟨_,rfl⟩,trivial⟩)
def hl(t:List UInt8):Value:=.string ⟨t.toArray⟩
def ic(b:Nat)(F:FS):Asn:=e8 λs:Sl=>e8 λm:Nat=>e8 λwr:Int=>cC (s.n=F.bP.length/\F.bP.length<=32)
 (star (bE b [Sv s,.map (some m),Iv wr]) (star (bC s 1 (bD F.bP)) (cB m k2 (λk=>(F.bz k).map hl))))
def ic.get{b:Nat}{F:FS}(h:Sep E (ic b F::L) w):∃(s:Sl) (m:Nat) (wr:Int),s.n=F.bP.length/\F.bP.length<=32/\
  Sep E (bE b [Sv s,.map (some m),Iv wr]::bC s 1 (bD F.bP)::cB m k2 (λk=>(F.bz k).map hl)::L) w:=by
 obtain⟨s,h⟩:=Sep.ex.1 h;obtain⟨m,h⟩:=Sep.ex.1 h;obtain⟨wr,h⟩:=Sep.ex.1 h;obtain⟨a,h⟩:=Sep.cC.1 h;have h1:=(Sep.star.1 h).swap;exact⟨s,m,wr,a.1,a.2,(Sep.star.1 h1).ro 3 [2,0,1] rfl⟩
def ic.mk{b m:Nat}{F:FS}{s:Sl}{wr:Int}(c:s.n=F.bP.length)(a:F.bP.length<=32)(h:Sep E (bE b [Sv s,.map (some m),Iv wr]::bC s 1 (bD F.bP)::cB m k2 (λk=>(F.bz k).map hl)::L) w):Sep E (ic b F::L) w:=
 Sep.ex.2 ⟨s,Sep.ex.2 ⟨m,Sep.ex.2 ⟨wr,Sep.cC.2 ⟨⟨c,a⟩,Sep.star.2 (Sep.swap (Sep.star.2 (h.ro 3 [1,2,0] rfl)))⟩⟩⟩⟩
variable{b:Nat}{F:FS}
def aBP{q:Nat}(h:Sep E L w)(c:L[q]?=some (ic b F)):Calls P Jv #[Pb b] w (bW λv w'=>v=Iv (F.bP.length:Nat)/\w'=w):=by
 apply Xd;unfold LF qK;obtain⟨s,m,wr,a,d,h1⟩:=ic.get (h.fr q c);refine⟨_,rfl,s,h1.cell 0,?_,rfl⟩;rw[a]
def Py{q:Nat}(h:Sep E L w)(k:L[q]?=some (ic b F))(f:Int):Calls P CJ #[Pb b,Iv f] w (bW λv w'=>v=Iv (nm F f)/\w'=w):=by
 apply Xe;unfold LG qD qK qW qg;obtain⟨s,m,wr,j,l,h1⟩:=ic.get (h.fr q k);unfold nm;refine⟨λw'=>w'=w/\0<=f/\f<F.bP.length,cL (λc=>⟨by rw[bM (.inl c)],rfl⟩) (λc=>⟨_,rfl,s,h1.cell 0,hk (λi=>⟨by rw[bM (.inr bA)],rfl⟩) (λi=>⟨rfl,c,bA⟩)⟩),?_⟩;rintro _ w2 ⟨rfl,e,d⟩;refine⟨_,rfl,s,h1.cell 0,kY 1 h1 rfl j e d (λa g=>⟨_,g,?_,rfl⟩)⟩;rw[cM]
def Pz{q:Nat}(h:Sep E L w)(c:L[q]?=some (ic b F))(k:Int×Int):Calls P yU #[Pb b,k2 k] w (bW λv w'=>v=.bool (ed F k)/\Sep E L w'):=by
 show Calls P yU #[Pb b,.agg #[Iv k.1,Iv k.2]] w _;apply YK;unfold M1 qL qQ zH;refine Al.i h (λp e h1=>Dr.i h1 (λw2 a=>⟨_,by rw[cj];exact a.cell 1,hN (λhle=>?_) (λd=>?_)⟩))
 ·refine⟨_,by rw[cj];exact a.cell 1,_,by rw[cj];exact a.cell 0,use (Py (q:=q+1) a (by simpa using c) k.1) ?_⟩;rintro _ f ⟨rfl,rfl⟩;refine⟨_,rfl,_,by rw[cj];exact a.cell 1,rfl,?_,a.tail⟩;unfold ed;rw[dh hle];rfl
 ·refine⟨?_,a.tail⟩;unfold ed;rw[c4 bA];rfl
def rY(n:Int):IntKind.u8.wrap n=n%256:=by unfold IntKind.wrap;simp[IntKind.signed,IntKind.bits]
def aJF(n:Int):((l1 n).toNat:Int)=n%256:=by
 unfold l1;rw[UInt8.toNat_ofNat'];omega
def aBQ(k:Int×Int)(h:Sep E L w):Calls P DD #[k2 k] w (bW λv w'=>v=hl (nn k)/\Sep E L w'):=by
 show Calls P DD #[.agg #[Iv k.1,Iv k.2]] w _;apply YL;unfold M3 qO zD zZ;refine Al.i h (λp u h1=>Al.i h1 (λp2 w2 a=>?_));refine⟨_,by rw[cj];exact a.cellAt 1 rfl 0,_,by rw[cj];exact a.cellAt 1 rfl 1,?_⟩;have a:Sep E (bE p2 (gW (List.replicate 16 0))::L) w2:=by
  have e:gW (List.replicate 16 0)= [.int .u8 0,.int .u8 0,.int .u8 0,.int .u8 0,.int .u8 0,.int .u8 0,.int .u8 0,.int .u8 0,.int .u8 0,.int .u8 0,.int .u8 0,.int .u8 0,.int .u8 0,.int .u8 0,.int .u8 0,.int .u8 0]:=by simp[gW,List.replicate]
  rw[e];exact a.ro 2 [0] rfl
 refine⟨λx w'=>∃j:Nat,x=j/\j<=16/\Sep E (bE p2 (gW ((nn k).take j++List.replicate (16-j) 0))::L) w',λx _=>(16-x).toNat,⟨0,rfl,bA,by rw[xA,lR];exact a⟩,?_⟩;rintro _ x y ⟨j,rfl,s,c⟩;have m:(nn k).length=16:=by simp[nn]
 refine cL (λr=>?_) (λq=>?_)
 ·have f:j<16:=by omega
  refine⟨_,rfl,⟨bA,bA⟩,St.j c (by simp;omega) (λz d=>?_)⟩;refine⟨⟨j+1,c1,bA,?_⟩,by dsimp only;rw[c1];omega⟩;have e:(gW ((nn k).take j++List.replicate (16-j) 0)).set (0+((j:Nat):Int).toNat*1) (.int .u8 (IntKind.u8.wrap ((IntKind.u8.wrap ((IntKind.u8.wrap ((IntKind.u8.wrap k.1)*31))+(IntKind.u8.wrap ((IntKind.u8.wrap k.2)*7))))+(IntKind.u8.wrap ((j:Nat):Int)))))=gW ((nn k).take (j+1)++List.replicate (16-(j+1)) 0):=by
   rw[e5,fC,dk];have n:(nn k)[j]?=some (l1 (31*k.1+7*k.2+(j:Int))):=by unfold nn;rw[ew,my f];rfl
   rw[fw n];unfold gW;rw[jV,jV,jV,ik _ _ (by simp;omega)];rw[show j-((List.take j (nn k)).map λb=>Value.int .u8 (b.toNat:Int)).length=0 by simp;omega,show 16-j=(16-(j+1))+1 by omega,nV,mC,xx,dc];congr 1;simp only[mC,Bb,List.singleton_append];congr 2;rw[aJF,rY,rY,rY,rY,rY,rY,rY];omega
  rw[e]at d;exact d
 ·have:j=16:=by omega
  subst this;rw[hE bA,hG,GQ,hF]at c;refine⟨_,λw' g=>?_,rfl,c.tail⟩;have d:=c.grow g;obtain⟨e,o,q2⟩:=BT (P:=P) (t:=tx) cr;have:=run_convert_bytes_back (P:=P) w' tx Ci e ⟨p2,0,none⟩ (16-0) (nn k) o q2 cr (λi l=>by rw[cj,d.cell,e5,vk,dD l];rfl);rw[m]at this;exact this
def PC(k:Int×Int)(h:Sep E (ic b F::L) w):Calls P yR #[Pb b,k2 k] w
  (bW λv w'=>v=.tuple #[hl (s3 F k).1,Iv (s3 F k).2]/\Sep E (ic b F::L) w'):=by
 show Calls P yR #[Pb b,.agg #[Iv k.1,Iv k.2]] w _;apply X5;unfold Mo qF qM zJ zZ;refine Al.i h (λp o h1=>⟨_,by rw[cj];exact h1.cell 0,_,by rw[cj];exact h1.cell 1,use (Pz (q:=1) h1 rfl k) ?_⟩);rintro _ w2 ⟨rfl,d⟩;refine⟨_,rfl,?_⟩;unfold s3;cases l:ed F k with
 |false=>exact eC ⟨rfl,d.tail⟩
 |true=>
  refine dH (Dr.i d (λi e=>?_));obtain⟨s,m,wr,n,j,f⟩:=ic.get e.swap;have a:Sep E (bE p [Iv k.1,Iv k.2]::ic b F::L) i:=e;refine⟨_,rfl,some m,by rw[cj];exact f.cell 1,_,by rw[cj];exact a.cell 0,_,by rw[cj];exact a.cell 1,?_⟩;have c:=gk.i true 2 f rfl Px (t:=V6) (z:=.string ⟨#[]⟩) cr k;cases hp:F.bz k with
  |some t=>
   simp only[hp,jh,mB,GZ]at c;exact⟨_,_,c,eC ⟨rfl,a.tail⟩⟩
  |none=>
   simp only[hp,Option.map_none,Option.getD_none,T3]at c;refine⟨_,_,c,dH ⟨_,by rw[cj];exact a.cell 0,_,by rw[cj];exact a.cell 1,use (aBQ k a) ?_⟩⟩;rintro _ r ⟨rfl,g⟩;exact⟨_,rfl,rfl,g.tail⟩
def aBR(k:Int×Int)(t:List UInt8)(h:Sep E (ic b F::L) w):Calls P Dn #[Pb b,k2 k,hl t] w
  (bW λv w'=>v=Iv (np F k t).2/\Sep E (ic b (np F k t).1::L) w'):=by
 show Calls P Dn #[Pb b,.agg #[Iv k.1,Iv k.2],.string ⟨t.toArray⟩] w _;apply Yc;unfold Mw qF qL qM zZ;refine Al.i h (λp B h1=>⟨_,by rw[cj];exact h1.cell 0,_,by rw[cj];exact h1.cell 1,use (Pz (q:=1) h1 rfl k) ?_⟩);rintro _ w2 ⟨rfl,c⟩;refine⟨_,rfl,?_⟩;unfold np;have l:(⟨t.toArray⟩:ByteArray).size=t.length:=by show t.toArray.size=_;simp
 rw[l];cases A:ed F k with
 |false=>exact eC ⟨rfl,c.tail⟩
 |true=>
  refine dH (gV (λy=>?_) (λhe=>?_))
  ·have d:t.length≠16:=by omega
   rw[bJ bO,bM d];exact⟨rfl,c.tail⟩
  ·have j:¬ t.length≠16:=by omega
   rw[bJ bO,bJ j];refine Dr.i c (λC n=>?_);obtain⟨s,m,wr,r,f,a⟩:=ic.get n.swap;refine⟨_,rfl,some m,by rw[cj];exact a.cell 1,_,by rw[cj];exact a.cellAt 3 rfl 0,_,by rw[cj];exact a.cellAt 3 rfl 1,?_⟩;refine mapUpdate.i (a.ro 4 [2,0,1,3] rfl) Px (z:=.string ⟨#[]⟩) cr k _ (λD g=>?_);refine⟨_,rfl,wr,by rw[cj];exact(g.cellAt 1 rfl _).trans rfl,_,rfl,?_⟩;refine St.j g.swap (show 0+2<3 by decide) (λu o=>⟨rfl,?_⟩);have i:Sep E (bE b [Sv s,.map (some m),Iv (i64.wrap (wr+1))]::cB m k2 (cK (λk=>(F.bz k).map hl) k (some (hl t)))::bC s 1 (bD F.bP)::bE p [Iv k.1,Iv k.2]::L) u:=o;have e:(cK (λk=>(F.bz k).map hl) k (some (hl t)))= λx=>((λx=>if x=k then some t else F.bz x) x).map hl:=by
    funext x;unfold cK;dsimp only;split<;>rfl
   rw[e]at i;exact ic.mk (F:={F with bz:=λx=>if x=k then some t else F.bz x}) r f (i.ro 4 [0,2,1] rfl)
def aFD{s:Sl}{l:bU}(n:Ints E L s l)(D:s.n<=s.c)(h:Sep E L w):Calls P Cp #[Sv s] w (bW λv w'=>∃b,v=Pb b/\Sep E (ic b (gL l)::L) w'):=by
 apply Wm;unfold K2 qC qD qK qO;have O:=n.1;refine cB.new (enc:=k2) h (λm Q h1=>Al.i h1 (λp w2 z=>?_));have hm:min1 ((s.n:Nat):Int) 32=((min l.length 32:Nat):Int):=by unfold min1;split<;>omega
 rw[hm];refine⟨⟨bA,bA⟩,?_⟩;simp only[dk,Hn];have o:(gL l).bP.length=min l.length 32:=by simp[gL];omega
 refine⟨λx w'=>∃j:Nat,x=j/\j<=min l.length 32/\∃t:Sl,t.n=((gL l).bP.take j).length/\Sep E (bC t 1 (bD ((gL l).bP.take j))::bE p [Sv t,.map (some m),Iv 0]::cB m k2 (λ_=>none)::L) w',
  λx _=>(min l.length 32-x).toNat,⟨0,rfl,ec _,⟨none,0,0⟩,rfl,bC.none_ z⟩,?_⟩
 rintro _ x H ⟨j,rfl,N,t,i,c⟩;refine cL (λM=>?_) (λJ=>?_)
 ·have K:j<min l.length 32:=by omega
  obtain⟨y,u⟩:∃y,l[j]?=some y:=⟨_,dL⟩
  obtain⟨a,C,d⟩:=(n.cons.cons.cons (A:=bC t 1 (bD ((gL l).bP.take j)))).2 H c j y u;have r:(gL l).bP[j]?=some (min (max y 0) 4096):=by unfold gL;rw[ew,pz,eG,u];rfl
  refine⟨a.add 0,?_,⟨bA,bA⟩,?_⟩
  ·unfold gb;split;·omega
   ·rw[C];simp
  ·refine⟨y,?_,_,rfl,t,by rw[cj];exact c.cellAt 1 rfl 0,Al.i c (λq I g=>?_)⟩
   ·rw[dk,fC];have:((a.add 0).add j)=a.add j:=by cases a;unfold Addr.add;simp
    rw[this];exact d
   ·have e:min1 (dy y 0) 4096=min (max y 0) 4096:=by unfold min1 dy;split<;>split<;>omega
    have g:Sep E (bE q [Iv (min (max y 0) 4096)]::bC t 1 (bD ((gL l).bP.take j))::bE p [Sv t,.map (some m),Iv 0]::cB m k2 (λ_=>none)::L) I:=by rw[<- e];exact g
    refine Pw i (by rw[g7];omega) g (λG R f k=>?_);rw[<- fw r]at f k;refine⟨_,rfl,?_⟩;refine St.j k.swap (show 0+0<3 by decide) (λS B=>?_);exact⟨⟨j+1,c1,bA,G,f,B.swap⟩,by dsimp only;rw[c1];omega⟩
 ·have:j=min l.length 32:=by omega
  subst this;have e:(gL l).bP.take (min l.length 32)=(gL l).bP:=hE bA;rw[e]at i c;exact⟨p,rfl,ic.mk (F:=gL l) i (by rw[o];omega) (c.ro 3 [1,0,2] rfl)⟩
def cY:List Nat->Nat
 |[]=>0
 |k::l=>k+cY l
def vY:∀(a b:List Nat),cY (a++b)=cY a+cY b
 |[],b=>by simp[cY]
 |x::a,b=>by show x+cY (a++b)=x+cY a+cY b;rw[vY a b];omega
def Es(l:List Nat)(k:Nat):cY (l.take k)<=cY l:=by
 have:=vY (l.take k) (l.drop k);rw[fA]at this;omega
def ints(l:List Nat):bU:=l.map Int.ofNat
def vZ{l:List Nat}{k x:Nat}(h:l[k]?=some x):(ints l)[k]?=some (x:Int):=by unfold ints;rw[ew,h];rfl
def ud(l:List Nat):(ints l).length=l.length:=by simp[ints]
def PD{s:Sl}{ws:List Nat}(d:Ints E L s (ints ws))(c:∀k∈ws,k<=62)(j:cY ws<=64)(o:ws.length<1000)(h:Sep E L w):Calls P Dq #[Sv s] w (bW λv w'=>v=.tuple #[Iv (cY ws:Nat),.bool true]/\w'=w):=by
 apply Yh;unfold MD qD qI qW;have f:=d.1;rw[ud]at f;refine⟨λn x w'=>w'=w/\∃k:Nat,x=k/\k<=ws.length/\n=(cY (ws.take k):Nat),λ_ x _=>(ws.length-x).toNat,⟨rfl,0,rfl,ec _,rfl⟩,?_⟩;rintro _ n x q ⟨rfl,k,rfl,p,rfl⟩;refine cL (λm=>?_) (λl=>?_)
 ·obtain⟨y,b⟩:∃y,ws[k]?=some y:=⟨_,dL⟩
  have i:=c y (eu b);have g:cY (ws.take (k+1))=cY (ws.take k)+y:=by rw[fw b,vY];rfl
  have hle:=Es ws (k+1);refine d.el h k rfl (vZ b) ?_;have e:i64.wrap (((cY (ws.take k):Nat):Int)+(y:Int))=((cY (ws.take (k+1)):Nat):Int):=by rw[g,cH bA bA];omega
  rw[e];refine cL (λa=>absurd a bA) (λ_=>eW (λa=>absurd a bA) (λ_=>eW (λa=>absurd a bA) (λ_=>?_)));exact⟨⟨rfl,k+1,c1,bA,rfl⟩,by dsimp only;rw[c1];omega⟩
 ·have:k=ws.length:=by omega
  subst this;rw[fN];exact⟨rfl,rfl⟩
def p2(k:Nat):(2:Int)^k=((2^k:Nat):Int):=by push_cast;rfl
def PE{k:Nat}(b:k<=62)(w:World):Calls P Ds #[Iv (k:Nat)] w (bW λv w'=>v=.int .u64 ((2^k-1:Nat):Int)/\w'=w):=by
 apply Yi;unfold ME;have hp:=tU (k:=k) bA;have a:=A5 k;rw[dj (n:=k) bA,show(min ((k:Nat):Int).toNat 64)=k by rw[dk];omega,Int.one_mul,p2,dj hp,show(((2^k:Nat):Int)-1)=((2^k-1:Nat):Int) by omega,dj];exact⟨bA,rfl,rfl⟩
def fields:List Nat->Nat->List Nat
 |[],_=>[]
 |k::ws,x=>x%2^k::fields ws (x/2^k)
def eU:∀(ws:List Nat) (x:Nat),(fields ws x).length=ws.length
 |[],_=>rfl
 |k::ws,x=>by show(fields ws _).length+1=_;rw[eU ws];rfl
def PF:∀ {ws:List Nat} {x k y:Nat},ws[k]?=some y->(fields ws x)[k]?=some (x/2^cY (ws.take k)%2^y)
 |[],_,_,_,h=>by simp at h
 |z::ws,x,0,y,h=>by
  simp only[lo,eF]at h;subst h;show some _=_;simp[cY]
 |z::ws,x,k+1,y,h=>by
  show(fields ws (x/2^z))[k]?=_;rw[PF (by simpa using h),m6,<- Nat.pow_add];rfl
def PG{s:Sl}{ws:List Nat}(g:Ints E L s (ints ws))(d:∀k∈ws,k<=62)(M:cY ws<64)(C:ws.length<1000){x:Nat}(hx:x<18446744073709551616)(h:Sep E L w):
  Calls P CX #[Sv s,.int .u64 (x:Nat)] w (bW λv w'=>(x/2^cY ws=0/\∃t:Sl,v=.tuple #[Sv t,Iv 0]/\t.n=ws.length/\Sep E (bC t 1 (bD (ints (fields ws x)))::L) w')\/
   (x/2^cY ws≠0/\v=.tuple #[.slice none 0 0,Iv 1]/\Sep E L w')):=by
 apply Xw;unfold L1 qC qD qW qg qp zU zV;dsimp only;have F:=g.1;rw[ud]at F;refine use (PD g d bA C h) ?_;rintro _ J ⟨rfl,rfl⟩;refine⟨_,_,rfl,λw'=>w'=J/\x/2^cY ws=0,dH (cL (λ_=>?_) (λD=>absurd D bA)),?_⟩
 ·rw[dj (n:=cY ws) bA,show(min ((cY ws:Nat):Int).toNat 64)=cY ws by rw[dk];omega,sh];refine⟨bA,gV (λQ=>?_) (λhe=>?_)⟩;·exact .inr ⟨bA,rfl,h⟩
  ·exact⟨rfl,bA⟩
 ·rintro _ w2 ⟨rfl,u⟩;refine⟨λy t i w'=>∃k:Nat,i=k/\k<=ws.length/\y=((x/2^cY (ws.take k):Nat):Int)/\t.n=((ints (fields ws x)).take k).length/\Sep E (bC t 1 (bD ((ints (fields ws x)).take k))::L) w',λ_ _ i _=>(ws.length-i).toNat,
   ⟨0,rfl,ec _,by simp[cY],rfl,bC.none_ h⟩,?_⟩
  rintro _ y t i K ⟨k,rfl,R,rfl,l,b⟩;refine cL (λO=>?_) (λN=>?_)
  ·obtain⟨z,c⟩:∃z,ws[k]?=some z:=⟨_,dL⟩
   have m:=d z (eu c);have G:cY (ws.take (k+1))=cY (ws.take k)+z:=by rw[fw c,vY];rfl
   refine(g.cons (A:=bC t 1 (bD ((ints (fields ws x)).take k)))).el b k rfl (vZ c) (use (PE m K) ?_);rintro _ T ⟨rfl,rfl⟩;refine⟨_,rfl,?_⟩;have hp:=tU (k:=z) bA;have p:=A5 z;have j:x/2^cY (ws.take k)<18446744073709551616:=AZ (Hd _ _) hx;have I:2^z<9223372036854775808:=GP (a:=2) (n:=63) bO bA;have r:i64.wrap (bV .u64 (((x/2^cY (ws.take k):Nat):Int)) (((2^z-1:Nat):Int)))=((x/2^cY (ws.take k)%2^z:Nat):Int):=by
    rw[nC j,q5];have:=kx (x/2^cY (ws.take k)) p;exact cH bA bA
   rw[r];have H:(ints (fields ws x))[k]?=some ((x/2^cY (ws.take k)%2^z:Nat):Int):=vZ (PF c);refine Al.i b (λq U B=>Pw l (by rw[g7,ud,eU];omega) B (λS V f o=>?_));rw[<- fw H]at f o;rw[dj (n:=z) bA,show(min ((z:Nat):Int).toNat 64)=z by rw[dk];omega,sh];refine⟨bA,⟨k+1,c1,bA,?_,f,o⟩,by dsimp only;rw[c1];omega⟩;rw[G,Nat.pow_add,<- m6]
  ·have:k=ws.length:=by omega
   subst this;have e:(ints (fields ws x)).take ws.length=ints (fields ws x):=hE (by rw[ud,eU];omega);rw[e]at l b;exact .inl ⟨u,t,rfl,by rw[l,ud,eU],b⟩
def jm:List Nat->List Nat->Nat
 |k::ws,v::vs=>v+2^k*jm ws vs
 |_,_=>0
def Et:∀ {ws vs:List Nat},(∀(k y v:Nat),ws[k]?=some y->vs[k]?=some v->v<2^y)->jm ws vs<2^cY ws
 |[],_,_=>by show 0<2^0;decide
 |k::ws,[],_=>A5 _
 |k::ws,v::vs,h=>by
  have b:=h 0 k v rfl rfl;have h1:=Et (ws:=ws) (vs:=vs) (λi y u a hu=>h (i+1) y u (by simpa using a) (by simpa using hu));show v+2^k*jm ws vs<2^(k+cY ws);rw[Nat.pow_add];have:2^k*jm ws vs+2^k<=2^k*2^cY ws:=by
   rw[<- Nat.mul_succ];exact Nat.mul_le_mul_left _ h1
  omega
def PH:∀ {ws vs:List Nat} {k y v:Nat},ws[k]?=some y->vs[k]?=some v->jm (ws.take (k+1)) (vs.take (k+1))=jm (ws.take k) (vs.take k)+2^cY (ws.take k)*v
 |[],_,_,_,_,h,_=>by simp at h
 |_::_,[],_,_,_,_,h=>by simp at h
 |z::ws,u::vs,0,y,v,h1,a=>by
  simp only[lo,eF]at h1 a;subst h1 a;simp[jm,cY]
 |z::ws,u::vs,k+1,y,v,h1,a=>by
  have b:=PH (ws:=ws) (vs:=vs) (k:=k) (y:=y) (v:=v) (by simpa using h1) (by simpa using a);show u+2^z*jm (ws.take (k+1)) (vs.take (k+1))=(u+2^z*jm (ws.take k) (vs.take k))+2^(z+cY (ws.take k))*v;rw[b,na,Nat.pow_add,Hj,uV]
def aL5{a k v:Nat}(b:a<2^k):a ||| (2^k*v)=a+2^k*v:=by
 rw[Nat.or_comm,<- GI b,rf]
def PI{s t:Sl}{ws vs:List Nat}(B:Ints E L s (ints ws))(F:Ints E L t (ints vs))(r:∀k∈ws,k<=62)(T:cY ws<=63)(K:ws.length<1000)(Y:vs.length=ws.length)(D:∀u∈vs,u<9223372036854775808)(h:Sep E L w):
  Calls P DK #[Sv s,Sv t] w (bW λv w'=>(((∀(k y u:Nat),ws[k]?=some y->vs[k]?=some u->u<2^y)/\v=.tuple #[.int .u64 (jm ws vs:Nat),Iv 0])\/((¬ ∀(k y u:Nat),ws[k]?=some y->vs[k]?=some u->u<2^y)/\v=.tuple #[.int .u64 0,Iv 1]))/\w'=w):=by
 apply Y7;unfold Nm qD qW qg qp zA zU;have O:=B.1;have G:=F.1;rw[ud]at O G;refine⟨λw'=>w'=w,use (PD B r bA K h) ?_,?_⟩
 ·rintro _ H ⟨rfl,rfl⟩;exact⟨_,_,rfl,dH (gV (λg=>absurd (show((t.n:Nat):Int)=((s.n:Nat):Int) by omega) g) (λ_=>rfl))⟩
 ·rintro _ H rfl;refine⟨λx low i w'=>w'=H/\∃k:Nat,i=k/\k<=ws.length/\x=((jm (ws.take k) (vs.take k):Nat):Int)/\low=((cY (ws.take k):Nat):Int)/\∀(j y u:Nat),j<k->ws[j]?=some y->vs[j]?=some u->u<2^y,λ_ _ i _=>(ws.length-i).toNat,
   ⟨rfl,0,rfl,ec _,by simp[jm],rfl,λj _ _ l=>bA⟩,?_⟩
  rintro _ x low i w2 ⟨rfl,k,rfl,X,rfl,rfl,c⟩;refine cL (λV=>?_) (λU=>?_)
  ·obtain⟨y,d⟩:∃y,ws[k]?=some y:=⟨_,dL⟩
   obtain⟨u,hu⟩:∃u,vs[k]?=some u:=⟨_,dL⟩
   have C:=r y (eu d);have Q:cY (ws.take (k+1))=cY (ws.take k)+y:=by rw[fw d,vY];rfl
   have hle:=Es ws (k+1);refine B.el h k rfl (vZ d) (F.el h k rfl (vZ hu) ?_);have W:=A5 y;have R:2^y<9223372036854775808:=GP (a:=2) (n:=63) bO bA;have bad:¬ u<2^y->¬ ∀(k y u:Nat),ws[k]?=some y->vs[k]?=some u->u<2^y:=λg c=>g (c k y u d hu);refine⟨λw'=>w'=w2/\u<2^y,cL (λg=>absurd g bA) (λ_=>use (PE C w2) ?_),?_⟩
   ·rintro _ S ⟨rfl,rfl⟩;refine⟨_,rfl,?_⟩;have M:=D u (eu hu);rw[dj (n:=u) bA];exact eW (λg=>⟨.inr ⟨bad bA,rfl⟩,rfl⟩) (λg=>⟨rfl,bA⟩)
   ·rintro _ S ⟨rfl,A⟩;have N:cY (ws.take k)<64:=by have:=Es ws k;omega
    have z:jm (ws.take k) (vs.take k)<2^cY (ws.take k):=Et (λj p o h1 b=>by
     rw[pz]at h1 b;split at h1;·next l=>rw[bM l]at b;exact c j p o l h1 b
     ·cases h1)
    have q:jm (ws.take (k+1)) (vs.take (k+1))<2^cY (ws.take (k+1)):=Et (λj p o h1 b=>by
     rw[pz]at h1 b;split at h1
     ·next l=>
      rw[bM l]at b;rcases gS j k with f|f;·exact c j p o f h1 b
      ·have:j=k:=by omega
       subst this;rw[d]at h1;rw[hu]at b;rw[<- cQ h1,<- cQ b];exact A
     ·cases h1)
    have e:jm (ws.take (k+1)) (vs.take (k+1))<18446744073709551616:=mz q (uJ (n:=2) bO (show cY (ws.take (k+1))<=64 by omega));have m:=PH d hu;have I:iG .u64 ((jm (ws.take k) (vs.take k):Nat):Int) (u64.wrap ((u64.wrap (u:Int))*2^(min ((cY (ws.take k):Nat):Int).toNat 64)))=((jm (ws.take (k+1)) (vs.take (k+1)):Nat):Int):=by
     rw[show(min ((cY (ws.take k):Nat):Int).toNat 64)=cY (ws.take k) by rw[dk];omega,dj (n:=u) bA,p2,<- uS,sO,dj (by rw[m]at e;exact AZ (Nat.le_add_left _ _) e),vN (mz z (uJ (n:=2) bO (show cY (ws.take k)<=64 by omega))) (by rw[m]at e;exact AZ (Nat.le_add_left _ _) e),aL5 z,<- m]
    have J:u64.wrap (((cY (ws.take k):Nat):Int)+(u64.wrap (y:Int)))=((cY (ws.take (k+1)):Nat):Int):=by
     rw[dj (n:=y) bA,<- pF,dj,Q]
    rw[I,J];refine⟨bA,⟨rfl,k+1,c1,bA,rfl,rfl,λj p o l h1 b=>?_⟩,by dsimp only;rw[c1];omega⟩;rcases gS j k with f|f;·exact c j p o f h1 b
    ·have:j=k:=by omega
     subst this;rw[d]at h1;rw[hu]at b;rw[<- cQ h1,<- cQ b];exact A
  ·have:k=ws.length:=by omega
   subst this;refine⟨.inl ⟨λk y u d hu=>c k y u (cT.1 d).1 d hu,?_⟩,rfl⟩;rw[fN,hE bA]
end Go.Mp
namespace Go.Mp
open Go Go.Vc Go.Sp Go.Proofs Go.Kc Go.Kv Go.Kw
variable{E:Env}{L:ch}{w W:World}
def _root_.Go.Kw.En.vs(e:En):List Value:=[Iv e.k,Iv e.id,.bool e.wr,.bool e.tc]
def wid:List Nat:=[2,24,1,1]
def PJ(h:Sep E L w):Calls P CY #[] w (bW λv w'=>∃p,v=.slice (some ⟨p,0,none⟩) 4 4/\Sep E (bE p (bD (ints wid))::L) w'):=by
 apply ayf;unfold OJ qC;exact Al.i h (λp a h1=>⟨p,rfl,h1⟩)
def PK(b:Bool)(w:World):Calls P DL #[.bool b] w (bW λv w'=>v=Iv (b.toNat:Int)/\w'=w):=by
 apply aCy;exact cw (λh=>by subst h;exact⟨rfl,rfl⟩) (λh=>by subst h;exact⟨rfl,rfl⟩)
def PL{e:En}(a:e.k=1\/e.k=2)(h:Sep E L w):Calls P CZ #[.agg e.vs.toArray] w (bW λv w'=>v=.bool true/\Sep E L w'):=by
 apply azo;unfold OK qL zn;refine Al.i h (λp b h1=>ld h1 0 rfl rfl (x:=(e.k:Int)) rfl ?_);refine bF (by rcases a with a|a<;>rw[a]<;>rfl) (ld h1 0 rfl rfl (x:=(e.k:Int)) rfl ?_);rcases a with a|a;·exact bT (by rw[a];rfl) ⟨rfl,h1.tail⟩
 ·exact bF (by rw[a];rfl) (ld h1 0 rfl rfl (x:=(e.k:Int)) rfl ⟨by rw[a];rfl,h1.tail⟩)
def aIZ(e:En):jm wid [e.k,e.id,e.wr.toNat,e.tc.toNat]=e.enc:=by
 simp only[wid,jm,En.enc];omega
def zE{e:En}(h:e.ok):e.enc<268435456:=by
 obtain⟨b,a⟩:=h;have:=m8 e.wr;have:=m8 e.tc;unfold En.enc;omega
def aKw{e:En}(o:e.k=1\/e.k=2)(C:e.id<9223372036854775808)(h:Sep E L w):Calls P Kb #[.agg e.vs.toArray] w (bW λv w'=>v=(if e.id<16777216 then .tuple #[.int .u64 (e.enc:Nat),Iv 0]else .tuple #[.int .u64 0,Iv 1])/\Sep E L w'):=by
 apply aA1;unfold OX qC qF qJ qQ zB zH za zn;refine Al.i h (λp A h1=>ld h1 0 rfl rfl (x:=(e.k:Int)) rfl (ld h1 0 rfl rfl (x:=(e.id:Int)) rfl (ld h1 0 rfl rfl (x:=e.wr) rfl (ld h1 0 rfl rfl (x:=e.tc) rfl ?_))));have h1:Sep E (bE p e.vs::L) A:=h1;refine use (PL o h1) ?_;rintro _ w2 ⟨rfl,l⟩;refine⟨_,rfl,bF rfl (Dr.i l (λD f=>ld f 0 rfl rfl (x:=(e.k:Int)) rfl (ld f 0 rfl rfl (x:=(e.id:Int)) rfl (ld f 0 rfl rfl (x:=e.wr) rfl (ld f 0 rfl rfl (x:=e.tc) rfl (use (PJ f) ?_))))))⟩;rintro _ F ⟨q,rfl,d⟩;refine⟨⟨some ⟨q,0,none⟩,4,4⟩,rfl,ld d 1 rfl rfl (x:=e.tc) rfl ⟨rfl,ld d 1 rfl rfl (x:=e.wr) rfl ⟨rfl,ld d 1 rfl rfl (x:=(e.id:Int)) rfl ⟨rfl,ld d 1 rfl rfl (x:=(e.k:Int)) rfl ⟨rfl,use (PK e.wr _) ?_⟩⟩⟩⟩⟩;rintro _ _ ⟨rfl,rfl⟩;refine⟨_,rfl,ld d 1 rfl rfl (x:=e.tc) rfl ⟨rfl,ld d 1 rfl rfl (x:=(e.id:Int)) rfl ⟨rfl,ld d 1 rfl rfl (x:=(e.k:Int)) rfl ⟨rfl,use (PK e.tc _) ?_⟩⟩⟩⟩;rintro _ _ ⟨rfl,rfl⟩;refine⟨_,rfl,ld d 1 rfl rfl (x:=(e.id:Int)) rfl ⟨rfl,ld d 1 rfl rfl (x:=(e.k:Int)) rfl ⟨rfl,Al.i d (λr B g=>?_)⟩⟩⟩;have g:Sep E (bE r (bD (ints [e.k,e.id,e.wr.toNat,e.tc.toNat]))::bE q (bD (ints wid))::bE p e.vs::L) B:=g;have n:=PI (s:=⟨some ⟨q,0,none⟩,4,4⟩) (t:=⟨some ⟨r,0,none⟩,4,4⟩) (ws:=wid) (vs:=[e.k,e.id,e.wr.toNat,e.tc.toNat]) (Ints.gY (b:=q) (c:=4) (gs:=ints wid) (q:=1) rfl) (Ints.gY (b:=r) (c:=4) (gs:=ints [e.k,e.id,e.wr.toNat,e.tc.toNat]) (q:=0) rfl) bO bO bO rfl
  (λu hu=>by
   have:=m8 e.wr;have:=m8 e.tc;simp only[ey,ra,ri]at hu;omega) g
 refine use n ?_;rintro _ G ⟨z,rfl⟩;rcases z with⟨m,rfl⟩|⟨j,rfl⟩
 ·refine⟨_,_,rfl,?_,g.tail.tail.tail⟩;have i:e.id<2^24:=m 1 24 e.id rfl rfl;rw[eG,aIZ]
 ·refine⟨_,_,rfl,?_,g.tail.tail.tail⟩;rw[bJ];intro i;apply j;have:=m8 e.wr;have:=m8 e.tc;intro k y u a hu
  match k,a,hu with
  |0,a,hu=>simp[wid]at a hu;subst a hu;omega
  |1,a,hu=>simp[wid]at a hu;subst a hu;omega
  |2,a,hu=>simp[wid]at a hu;subst a hu;omega
  |3,a,hu=>simp[wid]at a hu;subst a hu;omega
  |k+4,a,_=>simp[wid]at a
def aFN{e:En}(h:e.ok):fields wid e.enc= [e.k,e.id,e.wr.toNat,e.tc.toNat]:=by
 obtain⟨b,a⟩:=h;have:=m8 e.wr;have:=m8 e.tc;simp only[wid,fields,En.enc];congr 1;·omega
 congr 1;·omega
 congr 1;·omega
 congr 1;omega
def PM{x k:Nat}(hx:x<18446744073709551616)(f:k<64):bV .u64 (x:Int) ((2^k:Nat):Int)=((if x/2^k%2=1 then 2^k else 0:Nat):Int):=by
 have c:(2:Nat)^k<18446744073709551616:=GP bO f (n:=64);rw[nC hx c];congr 1;apply uK;intro i;rw[Hc,sI];have e:(x.testBit k=true)↔x/2^k%2=1:=by rw[bd6,gj]
 by_cases b:k=i
 ·subst b;split;·next a=>rw[e.2 a,Nat.testBit_two_pow_self];simp
  ·next a=>
   have:x.testBit k=false:=by
    cases d:x.testBit k with
    |false=>rfl
    |true=>exact absurd (e.1 d) a
   rw[this];simp
 ·split;·rw[sI];simp[b]
  ·simp[b]
def aLw{e:En}(h:e.ok):(bV .u64 (e.enc:Int) 67108864 !=0)=e.wr:=by
 have d:=zE h;have h1:=PM (x:=e.enc) (k:=26) bA bO;have h1:bV .u64 (e.enc:Int) 67108864=((if e.enc/2^26%2=1 then 2^26 else 0:Nat):Int):=h1;obtain⟨c,b⟩:=h;have:=m8 e.wr;have:=m8 e.tc;have a:e.enc/2^26%2=e.wr.toNat:=by unfold En.enc;omega
 rw[h1,a];cases e.wr<;>rfl
def aLv{e:En}(h:e.ok):(bV .u64 (e.enc:Int) 134217728 !=0)=e.tc:=by
 have d:=zE h;have h1:=PM (x:=e.enc) (k:=27) bA bO;have h1:bV .u64 (e.enc:Int) 134217728=((if e.enc/2^27%2=1 then 2^27 else 0:Nat):Int):=h1;obtain⟨c,b⟩:=h;have:=m8 e.wr;have:=m8 e.tc;have a:e.enc/2^27%2=e.tc.toNat:=by unfold En.enc;omega
 rw[h1,a];cases e.tc<;>rfl
def PN{e:En}(ho:e.ok)(h:Sep E L w):Calls P CF #[.int .u64 (e.enc:Nat)] w (bW λv w'=>v=.tuple #[.agg e.vs.toArray,Iv 0]/\Sep E L w'):=by
 apply aye;unfold Ov qD qF qJ qU qW zF zG zn zu;have B:=zE ho;refine Al.i h (λp C h1=>use (PJ h1) ?_);rintro _ w2 ⟨q,rfl,m⟩;have u:=PG (s:=⟨some ⟨q,0,none⟩,4,4⟩) (ws:=wid) (Ints.gY (b:=q) (c:=4) (gs:=ints wid) (q:=0) rfl) bO bO bO (x:=e.enc) bA m;refine⟨⟨some ⟨q,0,none⟩,4,4⟩,rfl,use u ?_⟩;have y:cY wid=28:=rfl;rw[y,aFN ho];rintro _ D (⟨_,t,rfl,l,n⟩|⟨k,_⟩)
 ·obtain⟨b,sp,hp,_,_,_,o⟩:=bC.h2 n (by rw[l];decide);have g:t.n=4:=l;refine⟨t,_,rfl,bF rfl (Dr.i o (λF i=>⟨_,hp,⟨bO,by rw[g];decide⟩,ld i 0 rfl rfl (x:=(e.k:Int)) rfl ⟨_,hp,⟨bO,by rw[g];decide⟩,ld i 0 rfl rfl (x:=(e.id:Int)) rfl (Al.i i (λr G j=>?_))⟩⟩))⟩;refine ld j 1 rfl rfl (x:=(e.id:Int)) rfl ⟨rfl,ld j 1 rfl rfl (x:=(e.k:Int)) rfl ⟨rfl,eh _ j rfl (λz a=>?_)⟩⟩;rw[aLw ho,aLv ho]at a;have a:Sep E (bE r e.vs::bE b _::bE q _::bE p _::L) z:=a;refine ld a 0 rfl rfl (x:=(e.k:Int)) rfl (ld a 0 rfl rfl (x:=(e.id:Int)) rfl (ld a 0 rfl rfl (x:=e.wr) rfl (ld a 0 rfl rfl (x:=e.tc) rfl (use (PL ho.1 a) ?_))));rintro _ H ⟨rfl,f⟩;refine⟨_,rfl,bF rfl (ld f 0 rfl rfl (x:=(e.k:Int)) rfl (ld f 0 rfl rfl (x:=(e.id:Int)) rfl (ld f 0 rfl rfl (x:=e.wr) rfl (ld f 0 rfl rfl (x:=e.tc) rfl (eh _ (f.fr 3 rfl) rfl (λA d=>?_))))))⟩;have d:Sep E (bE p e.vs::bE r e.vs::bE b _::bE q _::L) A:=d;exact ld d 0 rfl rfl (x:=(e.k:Int)) rfl (ld d 0 rfl rfl (x:=(e.id:Int)) rfl (ld d 0 rfl rfl (x:=e.wr) rfl (ld d 0 rfl rfl (x:=e.tc) rfl ⟨rfl,d.tail.tail.tail.tail⟩)))
 ·exact absurd bA k
def aKx{e:En}(ho:e.ok)(h:Sep E L w):Calls P JU #[.int .u64 (e.enc:Nat)] w (bW λv w'=>v=.bool true/\Sep E L w'):=by
 apply aA2;unfold OU qL qU zt zu;refine use (PN ho h) ?_;rintro _ d ⟨rfl,h1⟩;refine⟨_,_,_,_,_,rfl,Al.i h1 (λp w2 c=>eh _ c rfl (λf a=>bT rfl (ld a 0 rfl rfl (x:=(e.k:Int)) rfl ⟨?_,a.tail⟩)))⟩;obtain⟨b|b,_⟩:=ho<;>rw[b]<;>rfl
def _root_.Go.Kw.En.cS(e:En):En:={e with tc:=true}
def Eu{e:En}(h:e.ok):iG .u64 (e.enc:Int) 134217728=(e.cS.enc:Int):=by
 have k:=zE h;obtain⟨j,i⟩:=h;have:=m8 e.wr;have h1:iG .u64 (e.enc:Int) ((2^27:Nat):Int)=((e.enc ||| 2^27:Nat):Int):=vN bA bO;have h1:iG .u64 (e.enc:Int) 134217728=((e.enc ||| 2^27:Nat):Int):=h1;rw[h1];congr 1;obtain⟨x,hx⟩:∃x,e.k+4*e.id+67108864*e.wr.toNat=x:=⟨_,rfl⟩
 have a:x<2^27:=by omega
 have d:e.cS.enc=x+134217728*true.toNat:=by rw[<- hx];rfl
 have g:e.enc=x+134217728*e.tc.toNat:=by rw[<- hx];rfl
 rw[Bool.toNat_true,fC]at d;rw[d,g];cases e.tc with
 |false=>
  rw[Bool.toNat_false,Nat.mul_zero,lu,Nat.or_comm];have c:=GI a 1;rw[fC]at c;have f:134217728+x=2^27 ||| x:=c;rw[rf];exact f.symm
 |true=>
  rw[Bool.toNat_true,fC];have b:=GI a 1;have b:134217728+x=134217728 ||| x:=b;rw[rf,b,Nat.or_comm,<- Nat.or_assoc,show 2^27 ||| 134217728=134217728 by decide]
def aIL{e:En}(ho:e.ok)(h:Sep E L w):Calls P JA #[.int .u64 (e.enc:Nat)] w (bW λv w'=>v=.int .u64 (e.cS.enc:Nat)/\Sep E L w'):=by
 apply azn;unfold OG qF;refine use (aKx ho h) ?_;rintro _ a ⟨rfl,h1⟩;exact⟨_,rfl,bT rfl ⟨by rw[Eu ho],h1⟩⟩
end Go.Mp
namespace Go.Kw
open Go Go.Kc Go.Kv
structure Tok(T:c0):Prop where
 cX:T.Pairwise λx y=>x.1<y.1
 low:∀q∈T,q.1<65536/\q.2.ok
def nH(R:RT 3)(T:c0):Prop:=∀p:Nat,p<65536->RT.look 3 R p=(ep T p).map En.enc
def z1{p:Nat}{e:En}:∀ {T:c0},ep T p=some e->(p,e)∈T
 |[],h=>by cases h
 |(q,f)::r,h=>by
  unfold ep at h;split at h;·next a=>cases h;subst a;exact fj
  ·exact fI _ (z1 h)
def v7{p:Nat}{e:En}:∀ {T:c0},T.Pairwise (λx y=>x.1<y.1)->(p,e)∈T->ep T p=some e
 |[],_,h=>by cases h
 |(q,f)::r,b,h=>by
  obtain⟨h1,a⟩:=g5.1 b;unfold ep;rcases ey.1 h with h|h;·cases h;rw[bM rfl]
  ·have:=h1 _ h;rw[bJ (by have:q<p:=this;omega)];exact v7 a h
def Tok.get{T:c0}(h:Tok T){p:Nat}{e:En}(a:ep T p=some e):p<65536/\e.ok:=h.low _ (z1 a)
def Tok.filter{T:c0}(h:Tok T)(f:Nat×En->Bool):Tok (T.filter f):=⟨h.cX.filter f,λq a=>h.low q (fO.1 a).1⟩
def Ev{p:Nat}{e:En}{x:Nat×En}:∀ {T:c0},x∈fR T p e->x=(p,e)\/x∈T
 |[],h=>.inl (by simpa[fR]using h)
 |(q,f)::r,h=>by
  unfold fR at h;split at h
  ·rcases ey.1 h with h|h;·exact .inl h
   ·exact .inr h
  ·split at h
   ·rcases ey.1 h with h|h;·exact .inl h
    ·exact .inr (fI _ h)
   ·rcases ey.1 h with h|h;·exact .inr (h▸fj)
    ·exact(Ev h).imp id (fI _)
def PO{p:Nat}{e:En}:∀ {T:c0},T.Pairwise (λx y=>x.1<y.1)->(fR T p e).Pairwise (λx y=>x.1<y.1)
 |[],_=>by simp[fR]
 |(q,f)::r,h=>by
  obtain⟨h1,b⟩:=g5.1 h;unfold fR;split
  ·next c=>
   refine g5.2 ⟨λy a=>?_,h⟩;rcases ey.1 a with rfl|a;·exact c
   ·have d:q<y.1:=h1 y a;show p<y.1;omega
  ·split;·next hle he=>subst he;exact g5.2 ⟨h1,b⟩
   ·next hle he=>
    refine g5.2 ⟨λy a=>?_,PO b⟩;rcases Ev a with rfl|a;·show q<p;omega
    ·exact h1 y a
def Tok.set{T:c0}(h:Tok T){p:Nat}{e:En}(hp:p<65536)(he:e.ok):Tok (fR T p e):=
 ⟨PO h.cX,λq a=>(Ev a).elim (λe=>by subst e;exact⟨hp,he⟩) (h.low q)⟩
def PQ{p q:Nat}{e:En}:∀ {T:c0},T.Pairwise (λx y=>x.1<y.1)->ep (fR T p e) q=if q=p then some e else ep T q
 |[],_=>by
  show(if p=q then some e else none)=if q=p then some e else none
  by_cases h:p=q;·rw[bM h,bM h.symm]
  ·rw[bJ h,bJ λe=>h e.symm]
 |(k,f)::r,h=>by
  obtain⟨h1,a⟩:=g5.1 h;unfold fR;split
  ·next b=>
   show(if p=q then some e else ep ((k,f)::r) q)=_;by_cases h:p=q;·rw[bM h,bM h.symm]
   ·rw[bJ h,bJ λe=>h e.symm]
  ·split
   ·next hle he=>
    subst he;show(if p=q then some e else ep r q)=if q=p then some e else if p=q then some f else ep r q
    by_cases h:p=q;·rw[bM h,bM h.symm]
    ·rw[bJ h,bJ (λe=>h e.symm),bJ h]
   ·next hle he=>
    show(if k=q then some f else ep (fR r p e) q)=if q=p then some e else if k=q then some f else ep r q
    rw[PQ a];by_cases h:k=q;·rw[bM h,bM h,cM]
    ·rw[bJ h,bJ h]
def Ew{p q:Nat}:∀ {T:c0},ep (T.filter λx=>x.1 !=p) q=if q=p then none else ep T q
 |[]=>by simp[ep]
 |(k,f)::r=>by
  rw[jq];by_cases a:k=p
  ·subst a;rw[bJ (by simp),Ew];by_cases h:q=k;·rw[bM h,bM h]
   ·rw[bJ h,bJ h];show ep r q=if k=q then some f else ep r q;rw[bJ λe=>h e.symm]
  ·rw[bM (by simpa using a)];show(if k=q then some f else ep (r.filter λx=>x.1 !=p) q)=if q=p then none else if k=q then some f else ep r q
   rw[Ew];by_cases h:k=q;·subst h;rw[bM rfl,bJ a,bM rfl]
   ·rw[bJ h,bJ h]
def PR:∀ {a b:List Nat},a.Pairwise (· < ·)->b.Pairwise (· < ·)->(∀x,x∈a↔x∈b)->a=b
 |[],[],_,_,_=>rfl
 |[],y::b,_,_,h=>absurd ((h y).2 fj) (by simp)
 |x::a,[],_,_,h=>absurd ((h x).1 fj) (by simp)
 |x::a,y::b,i,j,h=>by
  obtain⟨f,g⟩:=g5.1 i;obtain⟨b1,b2⟩:=g5.1 j;have e:x=y:=by
   rcases ey.1 ((h x).1 fj)with e|e;·exact e
   ·rcases ey.1 ((h y).2 fj)with d|d;·exact d.symm
    ·have:=b1 x e;have:=f y d;omega
  subst e;congr 1;refine PR g b2 λz=>⟨λc=>?_,λc=>?_⟩
  ·rcases ey.1 ((h z).1 (fI _ c))with e|e;·subst e;exact absurd (f z c) (uT _)
   ·exact e
  ·rcases ey.1 ((h z).2 (fI _ c))with e|e;·subst e;exact absurd (b1 z c) (uT _)
   ·exact e
end Go.Kw
namespace Go.Kv
def aHW{t:RT 0}{p:Nat}:slot 0 t (p%16)=(RT.look 0 t p).isSome:=rfl
def z2:∀(n:Nat) (t:RT n) (a p:Nat),p∈kg n t a↔p/16^(n+1)=a/\(RT.look n t p).isSome=true
 |0,t,a,p=>by
  rw[rX,A3];have ho:∀d,p∈hy 0 t a d↔slot 0 t d=true/\p=a*16+d:=by
   intro d;show p∈(if(List.getD (t:List (Option Nat)) d none).isSome then[a*16+d]else[])↔(List.getD (t:List (Option Nat)) d none).isSome=true/\_;split;·next h=>simp[h]
   ·next h=>simp[h]
  constructor
  ·rintro⟨d,c,h⟩;obtain⟨h1,rfl⟩:=(ho d).1 h;have c:=fW.1 c;refine⟨bA,?_⟩;rw[<- aHW,show(a*16+d)%16=d by omega];exact h1
  ·rintro⟨h1,b⟩;rw[Nat.pow_one]at h1;exact⟨p%16,fW.2 (kx _ bO),(ho _).2 ⟨b,bA⟩⟩
 |n+1,t,a,p=>by
  rw[rX,A3];have ho:∀d,p∈hy (n+1) t a d↔∃k s,Mp.gH t d=some (k,s)/\p∈kg n s (a*16+d):=by
   intro d;show p∈(match Mp.gH t d with|none=>[]|some (_,s)=>kg n s (a*16+d))↔_;cases Mp.gH t d with
   |none=>simp
   |some y=>exact⟨λh=>⟨y.1,y.2,rfl,h⟩,λ⟨k,s,e,h⟩=>by cases e;exact h⟩
  have g:p/16^(n+1+1)=p/16^(n+1)/16:=by rw[m9 16 (n+1),m6]
  constructor
  ·rintro⟨d,c,h⟩;have c:=fW.1 c;obtain⟨k,s,f,h⟩:=(ho d).1 h;obtain⟨h1,b⟩:=(z2 n s _ p).1 h;refine⟨by rw[g,h1];omega,?_⟩;rw[Mp.nF,h1,show(a*16+d)%16=d by omega,f];exact b
  ·rintro⟨h1,b⟩;rw[Mp.nF]at b;cases f:Mp.gH t (p/16^(n+1)%16)with
   |none=>rw[f]at b;cases b
   |some y=>
    rw[f]at b;refine⟨p/16^(n+1)%16,fW.2 (kx _ bO),(ho _).2 ⟨y.1,y.2,f,(z2 n y.2 _ p).2 ⟨?_,b⟩⟩⟩;rw[g]at h1;omega
def aJs:∀(n:Nat) (t:RT n) (a:Nat),(kg n t a).Pairwise (· < ·):=by
 intro n;have key:∀(n:Nat) (t:RT n) (a d x:Nat),d<16->x∈hy n t a d->x/16^n=a*16+d:=by
  intro n t a d x b hx;cases n with
  |zero=>
   have hx:x∈(if(List.getD (t:List (Option Nat)) d none).isSome then[a*16+d]else[]):=hx;split at hx;·simp at hx;rw[hx,Ba,Bd]
   ·cases hx
  |succ n=>
   have hx:x∈(match Mp.gH t d with|none=>[]|some (_,s)=>kg n s (a*16+d)):=hx;split at hx;·cases hx
   ·exact((z2 n _ _ x).1 hx).1
 have sg:∀(n:Nat) (t:RT n) (a:Nat),(∀d,(hy n t a d).Pairwise (· < ·))->(kg n t a).Pairwise (· < ·):=by
  intro n t a h1;rw[rX,List.pairwise_flatMap];refine⟨λd _=>h1 d,?_⟩;refine GK ?_ GM;intro d e b he i x hx y f;have j:=key n t a d x (fW.1 b) hx;have k:=key n t a e y (fW.1 he) f;rcases gS x y with h|h;·exact h
  ·have:=Nat.div_le_div_right (c:=16^n) h;omega
 induction n with
 |zero=>
  intro t a;refine sg 0 t a λd=>?_;show(if(List.getD (t:List (Option Nat)) d none).isSome then[a*16+d]else[]).Pairwise (· < ·);split<;>simp
 |succ n g=>
  intro t a;refine sg (n+1) t a λd=>?_;show(match Mp.gH t d with|none=>[]|some (_,s)=>kg n s (a*16+d)).Pairwise (· < ·);split;·simp
  ·exact g _ _
end Go.Kv
namespace Go.Mp
open Go Go.Vc Go.Sp Go.Proofs Go.Kc Go.Kv Go.Kw
variable{E:Env}{L:ch}{w W:World}
def aK6{R:RT 3}{T:c0}(c:Tok T)(g:nH R T):kg 3 R 0=T.map Prod.fst:=by
 refine PR (aJs 3 R 0) (jK.2 c.cX) λx=>?_;rw[z2,e4];constructor
 ·rintro⟨h1,b⟩;have hx:x<65536:=by
   have e:(16:Nat)^(3+1)=65536:=rfl;rw[e]at h1;omega
  rw[g x hx]at b;cases d:ep T x with
  |none=>rw[d]at b;cases b
  |some e=>exact⟨_,z1 d,rfl⟩
 ·rintro⟨⟨q,e⟩,f,rfl⟩;have a:=(c.low _ f).1;have a:q<65536:=a;refine⟨?_,?_⟩
  ·have e:(16:Nat)^(3+1)=65536:=rfl;rw[e];show q/65536=0;omega
  ·show(RT.look 3 R q).isSome=true;rw[g q a,v7 c.cX f];rfl
def cU(t:Nat)(T:c0):Asn:=e8 λR:RT 3=>cC (RT.ok 3 R/\nH R T) (cA (dJ 3 t R))
def cU.open{t:Nat}{T:c0}(h:Sep E (cU t T::L) w):∃R:RT 3,RT.ok 3 R/\nH R T/\Sep E (dJ 3 t R++L) w:=by
 obtain⟨R,h⟩:=Sep.ex.1 h;obtain⟨⟨h1,a⟩,h⟩:=Sep.cC.1 h;exact⟨R,h1,a,Sep.cA.1 h⟩
def cU.mk{t:Nat}{T:c0}{R:RT 3}(h1:RT.ok 3 R)(a:nH R T)(h:Sep E (dJ 3 t R++L) w):Sep E (cU t T::L) w:=Sep.ex.2 ⟨R,Sep.cC.2 ⟨⟨h1,a⟩,Sep.cA.2 h⟩⟩
def PT(h:Sep E L w):Calls P yH #[] w (bW λv w'=>∃t:Nat,v=Pb t/\Sep E (cU t []::L) w'):=by
 refine(aFH h).mono ?_;rintro e a ⟨v,rfl,t,rfl,h1⟩;exact⟨_,rfl,t,rfl,cU.mk (RT.lD 3) (λp _=>RT.jl 3 p) h1⟩
def PU{t:Nat}{T:c0}{bH:Int}(f:Tok T)(h:Sep E (cU t T::L) w):Calls P tC #[Pb t,Iv bH] w
  (bW λv w'=>((∃e:En,0<=bH/\ep T bH.toNat=some e/\v=.tuple #[.int .u64 (e.enc:Nat),.bool true])\/((if 0<=bH then ep T bH.toNat else none)=none/\v=.tuple #[.int .u64 0,.bool false]))/\Sep E (cU t T::L) w'):=by
 obtain⟨R,h1,a,c⟩:=cU.open h;refine(Em h1 c).mono ?_;rintro e g ⟨v,rfl,rfl,d⟩;refine⟨_,rfl,?_,cU.mk h1 a d⟩;unfold h3;by_cases hp:0<=bH/\bH<65536
 ·rw[bM hp,bM hp.1,a _ bA];cases b:ep T bH.toNat with
  |none=>exact .inr ⟨rfl,rfl⟩
  |some e=>exact .inl ⟨e,hp.1,rfl,rfl⟩
 ·rw[bJ hp];refine .inr ⟨?_,rfl⟩;split
  ·cases b:ep T bH.toNat with
   |none=>rfl
   |some e=>exact absurd (f.get b).1 bA
  ·rfl
def Ex{t:Nat}{T:c0}{p:Nat}{e:En}(i:Tok T)(hp:p<65536)(h:Sep E (cU t T::L) w):Calls P vB #[Pb t,Iv (p:Nat),.int .u64 (e.enc:Nat)] w
  (bW λv w'=>v=Iv 0/\Sep E (cU t (fR T p e)::L) w'):=by
 obtain⟨R,h1,b,c⟩:=cU.open h;refine(aLS h1 c).mono ?_;rintro e' k ⟨v,rfl,j|⟨_,rfl,R',d,f,g⟩⟩;·exact absurd bA j.1
 ·refine⟨_,rfl,rfl,cU.mk d (λq a=>?_) g⟩;rw[f q,dk,PQ i.cX,b q a];have e:(16:Nat)^(3+1)=65536:=rfl;rw[e,lQ a,lQ hp];split<;>rfl
def aGZ{t:Nat}{T:c0}{p:Nat}(f:Tok T)(hp:p∈T.map Prod.fst)(h:Sep E (cU t T::L) w):Calls P CK #[Pb t,Iv (p:Nat)] w
  (bW λv w'=>v=.bool true/\Sep E (cU t (T.filter λx=>x.1 !=p)::L) w'):=by
 obtain⟨R,h1,c,i⟩:=cU.open h;obtain⟨⟨q,e⟩,d,rfl⟩:=e4.1 hp;have a:q<65536:=(f.low _ d).1;refine(aKK h1 a (by rw[c _ a,v7 f.cX d];rfl) i).mono ?_;rintro e' m ⟨v,rfl,rfl,R',j,k,l⟩;refine⟨_,rfl,rfl,cU.mk j (λg b=>?_) l⟩;rw[k g,Ew,c g b];have e:(16:Nat)^(3+1)=65536:=rfl;rw[e,lQ b,lQ a];split<;>rfl
def kE(T:c0):List Value:=(T.map Prod.fst).map λp:Nat=>Iv (p:Nat)
def PV{t:Nat}{R:RT 3}{T:c0}(F:Tok T)(h1:RT.ok 3 R)(A:nH R T):D7 P E oo (λy=> #[Pb t,y]) emp emp (cA (dJ 3 t R)) (kE T):=by
 intro l J X D L W h;have B:=Sep.cA.1 (h.ro 3 [1,0] rfl);have hp:=aK6 F A;have m:∀ {Z:Asn} {M:ch} {w:World},Sep E (dJ 3 t R++Z::M) w->Sep E (Z::cA (dJ 3 t R)::M) w:=λq=>(Sep.cA.2 q).swap;have un:∀ {Z:Asn} {M:ch} {w:World},Sep E (Z::cA (dJ 3 t R)::M) w->Sep E (dJ 3 t R++Z::M) w:=λq=>Sep.cA.1 q.swap;have em:∀ {Z S:Asn} {w:World},Sep E (Z::S::L) w->Sep E (Z::S::emp::L) w:=λq=>(Sep.emp.2 q).ro 3 [1,2,0] rfl;refine Calls.mono (R:=bW λv d=>v=.tuple #[]/\(Sep E (J (kE T).length::cA (dJ 3 t R)::L) d\/∃k,k<(kE T).length/\Sep E (X k::cA (dJ 3 t R)::L) d)) ?_ (λe d he=>?_);rotate_left
 ·obtain⟨v,rfl,rfl,he⟩:=he;exact⟨⟨_,rfl⟩,he.imp em λ⟨k,g,q⟩=>⟨k,g,em q⟩⟩
 apply atD;unfold Ei qF;have o:=aKE (E:=E) 3 (b:=t) (a:=0) (k0:=0) (l:=l) (t:=R) (xs:=kE T) (J:=J) (X:=X) (L:=L) (w:=W) bA h1 bO
  (λi p r=>by rw[hp]at r;unfold kE;rw[e5,ew,r];rfl)
  (λk x s hx C=>by
   obtain⟨fn,tmps,n,body,j,c⟩:=D L k x s hx (m C);exact⟨fn,tmps,n,body,j,c.mono λe G he=>he.imp (λq=>⟨q.1,un q.2⟩) (λq=>⟨q.1,un q.2⟩)⟩) B
 have u:((3-3:Nat):Int)=0:=rfl;rw[u,e5,hp]at o;have z:(kE T).length=(T.map Prod.fst).length:=by unfold kE;rw[eb]
 rw[z];refine⟨_,rfl,?_⟩;dsimp only;rw[cj];refine use o ?_;rintro _ w2 (⟨rfl,f⟩|⟨rfl,k,g,f⟩);·exact⟨_,rfl,rfl,.inl (m f)⟩
 ·exact⟨_,rfl,rfl,.inr ⟨k,g,m f⟩⟩
def PW{t:Nat}{T:c0}(j:Tok T):y8 P E oo (λy=> #[Pb t,y]) (cU t T) (cU t T) (kE T):=by
 intro l J X g L W h;obtain⟨R,h1,a,d⟩:=cU.open h.swap;have b:∀ {Z:Asn} {w:World},Sep E (Z::cA (dJ 3 t R)::emp::L) w->Sep E (Z::cU t T::L) w:=λq=>(cU.mk h1 a (Sep.cA.1 (q.ro 3 [1,0] rfl))).swap;refine(PV j h1 a l J X (λM k x c hx f=>g _ k x c hx f) L W (((Sep.emp.2 (Sep.cA.2 d))).ro 3 [2,1,0] rfl)).mono λe m he=>⟨he.1,he.2.imp b λ⟨k,i,q⟩=>⟨k,i,b q⟩⟩
def z6{T:c0}(e:Tok T):T.length<=65536:=by
 have h1:∀(n:Nat) (l:List Nat),l.Pairwise (· < ·)->(∀x∈l,x<n)->l.length<=n:=by
  intro n;induction n with
  |zero=>intro l _ a;cases l with
   |nil=>simp
   |cons x l=>exact absurd (a x fj) bA
  |succ n b=>
   intro l hp a;have c:=b (l.filter λx=>x !=n) (hp.filter _) (λx hx=>by
    have d:=fO.1 hx;have:=a x d.1;have:x≠n:=by simpa using d.2
    omega)
   have i:l.length<=(l.filter λx=>x !=n).length+1:=by
    clear b c a;induction l with
    |nil=>simp
    |cons x l b=>
     obtain⟨h,p2⟩:=g5.1 hp;rw[jq];by_cases hx:x=n
     ·subst hx;rw[bJ (by simp)];have:l.filter (λy=>y !=x)=l:=AX.2 λy g=>by have:=h y g;simp;omega
      rw[this];simp
     ·rw[bM (by simpa using hx)];have:=b p2;simp;omega
   omega
 have c:=h1 65536 (T.map Prod.fst) (jK.2 e.cX) (λx hx=>by obtain⟨q,f,rfl⟩:=e4.1 hx;exact(e.low q f).1);rwa[eb]at c
def aLR{t:Nat}{T:c0}(a:Tok T)(h:Sep E (cU t T::L) w):Calls P I2 #[Pb t] w (bW λv w'=>v=Iv (T.length:Nat)/\Sep E (cU t T::L) w'):=by
 apply atB;unfold N9 qJ;have hx:kE T=((T.map Prod.fst).map Int.ofNat).map (Value.int .i64):=by unfold kE;rw[rh,rh,rh];rfl
 have hlen:=z6 a;refine use (Pn (fi:= #[Pb t]) (ca:= #[]) (λy=>by simp) cr (hx▸PW a) (by rw[eb,eb];omega) h) ?_;rintro _ c ⟨s,rfl,b,h1⟩;refine⟨s,rfl,?_,h1.tail⟩;rw[b,eb,eb]
end Go.Mp
namespace Go.Kw
def walk(T:c0)(a b:Int):bU:=((T.map Prod.fst).filter (hv a b)).map Int.ofNat
end Go.Kw
namespace Go.Mp
open Go Go.Vc Go.Sp Go.Proofs Go.Kc Go.Kv Go.Kw
variable{E:Env}{L:ch}{w W:World}
def jn(a:Int)(l:List Nat):bU:=(l.filter λp:Nat=>decide (a<=(p:Int))).map Int.ofNat
def PX{a b:Int}{l:List Nat}(h:∀x∈l,(x:Int)<b):(l.filter (hv a b)).map Int.ofNat=jn a l:=by
 unfold jn;congr 1;refine pA λx hx=>?_;unfold hv;have:=h x hx;by_cases c:a<=(x:Int)
 ·rw[dh c,dh ⟨c,this⟩]
 ·rw[c4 c,c4 λe=>c e.1]
def aLa{a b:Int}{l:List Nat}{k:Nat}(j:l.Pairwise (· < ·))(h:∀x∈l.take k,(x:Int)<b)(i:∀y,l[k]?=some y->b<=(y:Int)):(l.filter (hv a b)).map Int.ofNat=jn a (l.take k):=by
 have e:l.filter (hv a b)=(l.take k).filter (hv a b)++(l.drop k).filter (hv a b):=by rw[<- sJ,fA]
 have g:(l.drop k).filter (hv a b)= []:=by
  rw[List.filter_eq_nil_iff];intro x hx;cases c:l[k]? with
  |none=>rw[List.drop_eq_nil_of_le (by rw[GJ]at c;exact c)]at hx;cases hx
  |some y=>
   have n:=i y c;have d:=(cT.1 c).1;rw[ln d]at hx;have m:l[k]=y:=by rw[dD d]at c;exact cQ c
   have:(y:Int)<=x:=by
    rcases ey.1 hx with rfl|hx;·omega
    ·have f:(l.drop k).Pairwise (· < ·):=List.Pairwise.drop j;rw[ln d]at f;have:=(g5.1 f).1 x hx;omega
   unfold hv;simp;omega
 rw[e,g,hF];exact PX h
def wJ(c d e:Nat)(a b:Int)(xs:List Nat)(k:Nat):Asn:=
 e8 λs:Sl=>cC (s.n=(jn a (xs.take k)).length) (cA [bE e [Sv s],bC s 1 (bD (jn a (xs.take k))),bE c [Iv a],bE d [Iv b]])
def PY{t:Nat}{T:c0}{a b:Int}(aa:Tok T)(h:Sep E (cU t T::L) w):Calls P yB #[Pb t,Iv a,Iv b] w
  (bW λv w'=>∃s:Sl,v=Sv s/\s.n=(walk T a b).length/\Sep E (bC s 1 (bD (walk T a b))::cU t T::L) w'):=by
 obtain⟨xs,I⟩:∃xs,T.map Prod.fst=xs:=⟨_,rfl⟩
 have S:xs.Pairwise (· < ·):=by rw[<- I];exact jK.2 aa.cX
 have hlen:xs.length<=65536:=by rw[<- I,eb];exact z6 aa
 have hw:walk T a b=(xs.filter (hv a b)).map Int.ofNat:=by unfold walk;rw[I]
 have V:kE T=xs.map λp:Nat=>Iv (p:Nat):=by unfold kE;rw[I]
 have ae:∀k,(jn a (xs.take k)).length<=65536:=by
  intro k;unfold jn;rw[eb];have h1:=lp (λp:Nat=>decide (a<=(p:Int))) (xs.take k);have d:=List.length_take_le k xs;rw[g7]at h1;omega
 apply ass;unfold Eg qC qc;refine Al.i h (λn al h1=>Al.i h1 (λu w2 d=>Al.i d (λA ah C=>?_)));have K:Sep E (cC (∀x∈xs.take 0,(x:Int)<b) (wJ n u A a b xs 0)::cU t T::L) ah:=by
  refine Sep.cC.2 ⟨by simp,Sep.ex.2 ⟨⟨none,0,0⟩,Sep.cC.2 ⟨rfl,Sep.cA.2 ?_⟩⟩⟩;exact(bC.none_ (m:=1) C).ro 4 [1,0,3,2] rfl
 refine ib.iO (fi:= #[Pb t]) (ca:= #[]) (λy=>by simp) (τ:=fD) (ρ:=gG) (cz:=cz) (An:=tY) (yl:=Eh) mixed bO bO arv cr (PW aa)
  (λk=>cC (∀x∈xs.take k,(x:Int)<b) (wJ n u A a b xs k)) (λk=>cC ((∀x∈xs.take k,(x:Int)<b)/\∀y,xs[k]?=some y->b<=(y:Int)) (wJ n u A a b xs k)) ?_ K ?_ ?_
 ·intro l r L' k x W R B G hx M U Y;obtain⟨y,ab,rfl⟩:∃y:Nat,xs[k]?=some y/\x=Iv (y:Nat):=by
   rw[V,ew]at hx;cases Q:xs[k]? with
   |none=>rw[Q]at hx;cases hx
   |some y=>rw[Q]at hx;exact⟨y,rfl,(cQ hx).symm⟩
  have ak:=(cT.1 ab).1;have H:xs.take (k+1)=xs.take k++[y]:=by rw[mA,ab];rfl
  refine(ary (some ⟨t,0,none⟩) a b ⟨n,0,none⟩ ⟨u,0,none⟩ ⟨A,0,none⟩ (y:Nat) l W R).mpr ?_;unfold Oo qC qD qc;refine kU.i M B (λai i=>?_);obtain⟨g,i⟩:=Sep.cC.1 i.swap;obtain⟨s,i⟩:=Sep.ex.1 i;obtain⟨j,i⟩:=Sep.cC.1 i;have i:=Sep.cA.1 i;have i:Sep E (bE A [Sv s]::bC s 1 (bD (jn a (xs.take k)))::bE n [Iv a]::bE u [Iv b]::c2 l (.loop {r with state:=.busy})::L') ai:=i;have back:∀ {s':Sl} {k':Nat} {o:Obj} {w:World},s'.n=(jn a (xs.take k')).length->Sep E (c2 l o::bE A [.slice s'.p s'.n s'.c]::bC s' 1 (bD (jn a (xs.take k')))::bE n [Iv a]::bE u [Iv b]::L') w->Sep E (wJ n u A a b xs k'::c2 l o::L') w:=by
   intro s' k' o w F q;exact Sep.ex.2 ⟨s',Sep.cC.2 ⟨F,Sep.cA.2 (q.ro 5 [1,2,3,4,0] rfl)⟩⟩
  refine⟨b,i.cellAt 3 rfl 0,hk (λN=>?_) (λO=>⟨a,i.cellAt 2 rfl 0,hk (λN=>⟨s,i.cell 0,Al.i i (λq am af=>?_)⟩) (λZ=>?_)⟩)⟩
  ·refine e0.i (i.ro 5 [4,0,1,2,3] rfl) (λaj X=>Y aj (Sep.swap (Sep.cC.2 ⟨⟨g,λz f=>?_⟩,back j X⟩)));rw[ab]at f;cases f;exact N
  ·refine rV j (by have:=ae k;omega) (af.ro 3 [0,2,1] rfl) (λs' an F X=>?_);refine St.i X.swap (by show 0<1;decide) (λao ag=>?_);refine e0.i (ag.ro 5 [4,0,1,2,3] rfl) (λad D=>?_);have e:({ {r with state:=.busy} with state:=if(none:Option Code).isNone then .ready else .done,pending:=none} :Loop)=r:=by
    cases r;simp only at B G;subst B G;rfl
   rw[e]at D;have es:jn a (xs.take (k+1))=jn a (xs.take k)++[(y:Int)]:=by
    unfold jn;rw[H,sJ,jV];congr 1;rw[jq,bM (by simpa using N)];rfl
   rw[<- es]at D F;refine U ad (Sep.swap (Sep.cC.2 ⟨λz f=>?_,back F D⟩));rw[H]at f;rcases h6.1 f with f|f;·exact g z f
   ·rw[iD]at f;subst f;exact O
  ·refine e0.i (i.ro 5 [4,0,1,2,3] rfl) (λad D=>?_);have e:({ {r with state:=.busy} with state:=if(none:Option Code).isNone then .ready else .done,pending:=none} :Loop)=r:=by
    cases r;simp only at B G;subst B G;rfl
   rw[e]at D;have es:jn a (xs.take (k+1))=jn a (xs.take k):=by
    unfold jn;rw[H,sJ,jV,jq,bJ (by simpa using Z)];simp
   rw[<- es]at D j;refine U ad (Sep.swap (Sep.cC.2 ⟨λz f=>?_,back j D⟩));rw[H]at f;rcases h6.1 f with f|f;·exact g z f
   ·rw[iD]at f;subst f;exact O
 ·intro c W M;obtain⟨g,d⟩:=Sep.cC.1 M.swap;obtain⟨s,d⟩:=Sep.ex.1 d;obtain⟨j,d⟩:=Sep.cC.1 d;have d:=Sep.cA.1 d;have el:(kE T).length=xs.length:=by rw[V,eb]
  rw[el,fN]at j d g;have d:Sep E (bE A [Sv s]::bC s 1 (bD (jn a xs))::bE n [Iv a]::bE u [Iv b]::c2 c (.deferred (some []))::cU t T::L) W:=d;have C:=d.ro 6 [4,0,1,5,2,3] rfl;have K:=(C.putObj (o':=.deferred none)).tail;have J:walk T a b=jn a xs:=by rw[hw];exact PX g
  refine⟨s,d.cell 0,C.dp,s,rfl,by rw[J];exact j,?_⟩;rw[J];exact(K.ro 5 [1,2] rfl)
 ·intro c k W _ M;obtain⟨⟨g,Q⟩,d⟩:=Sep.cC.1 M.swap;obtain⟨s,d⟩:=Sep.ex.1 d;obtain⟨j,d⟩:=Sep.cC.1 d;have d:=Sep.cA.1 d;have d:Sep E (bE A [Sv s]::bC s 1 (bD (jn a (xs.take k)))::bE n [Iv a]::bE u [Iv b]::c2 c (.deferred (some []))::cU t T::L) W:=d;have C:=d.ro 6 [4,0,1,5,2,3] rfl;have K:=(C.putObj (o':=.deferred none)).tail;have J:walk T a b=jn a (xs.take k):=by rw[hw];exact aLa S g Q
  refine⟨s,d.cell 0,C.dp,s,rfl,by rw[J];exact j,?_⟩;rw[J];exact(K.ro 5 [1,2] rfl)
end Go.Mp
namespace Go.Kw
def PZ{p:Nat}{e:En}:∀ {T:c0},(∀q∈T,q.1<p)->fR T p e=T++[(p,e)]
 |[],_=>rfl
 |(q,f)::r,h=>by
  have h1:q<p:=h _ fj;unfold fR;rw[cM,cM,PZ λx hx=>h x (fI _ hx)];rfl
def Tok.take{T:c0}(h:Tok T)(k:Nat):Tok (T.take k):=⟨h.cX.take,λq a=>h.low q (mx a)⟩
end Go.Kw
namespace Go.Mp
open Go Go.Vc Go.Sp Go.Proofs Go.Kc Go.Kv Go.Kw
variable{E:Env}{L:ch}{w W:World}
def aIR{t:Nat}{T:c0}(p:Tok T)(h:Sep E (cU t T::L) w):Calls P CS #[Pb t] w
  (bW λv w'=>∃c:Nat,v=Pb c/\Sep E (cU c T::cU t T::L) w'):=by
 obtain⟨R,I,J,G⟩:=cU.open h;have G:=Sep.cA.2 G;have Z:∀ {M:ch} {w:World},Sep E (cA (dJ 3 t R)::M) w->Sep E (cU t T::M) w:=λq=>cU.mk I J (Sep.cA.1 q);apply ard;unfold Ej qR qb;refine Al.i G (λa af h1=>use (PT h1) ?_);rintro _ w2 ⟨c,rfl,i⟩;refine⟨_,rfl,Al.i i (λd ag f=>St.i f (by show 0<1;decide) (λS j=>⟨some ⟨t,0,none⟩,j.cellAt 2 rfl 0,?_⟩))⟩;have j:Sep E (bE d [Pb c]::cU c []::bE a [Pb t]::cA (dJ 3 t R)::L) S:=j;have H:Sep E (cA [bE a [Pb t],bE d [Pb c],cU c (T.take 0)]::cA (dJ 3 t R)::emp::L) S:=
  Sep.cA.2 (Sep.ro (Sep.emp.2 j) 5 [3,1,2,4,0] rfl)
 have D:kE T=(T.map λq=>Iv (q.1:Nat)):=by unfold kE;rw[rh];rfl
 refine ib.D8 (fi:= #[Pb t]) (ca:= #[]) (λy=>by simp) (τ:=fD) (ρ:=gG) (cz:=cz) (An:=tZ) (yl:=El) mixed bO bO ap6 cr (PV p I J)
  (λk=>cA [bE a [Pb t],bE d [Pb c],cU c (T.take k)]) (λ_=>cC False emp) ?_ H ?_ ?_
 ·intro l r L' k x W R' o F hx m N _;obtain⟨⟨y,e⟩,s,rfl⟩:∃q,T[k]?=some q/\x=Iv (q.1:Nat):=by
   rw[D,ew]at hx;cases O:T[k]? with
   |none=>rw[O]at hx;cases hx
   |some y=>rw[O]at hx;exact⟨y,rfl,(cQ hx).symm⟩
  have n:(y,e)∈T:=eu s;have u:y<65536:=(p.low _ n).1;refine(ap7 (some ⟨t,0,none⟩) ⟨a,0,none⟩ (some ⟨c,0,none⟩) ⟨d,0,none⟩ (some ⟨t,0,none⟩) (y:Nat) l W R').mpr ?_;unfold O1 qQ qb zh;refine kU.i m o (λaa V=>?_);have z:=Sep.cA.1 V.swap;have z:Sep E (bE a [Pb t]::bE d [Pb c]::cU c (T.take k)::c2 l (.loop {r with state:=.busy})::cA (dJ 3 t R)::L') aa:=z;refine⟨_,z.cell 0,?_⟩;have K:=Em (bH:=(y:Nat)) I (Sep.cA.1 (z.ro 5 [4,0,1,2,3] rfl));have U:h3 R (y:Int)=some e.enc:=by unfold h3;rw[eG,dk,J y u,v7 p.cX n];rfl
  rw[U]at K;refine use K ?_;rintro _ ab ⟨rfl,X⟩;have A:=Sep.cA.2 X;have A:Sep E (cA (dJ 3 t R)::bE a [Pb t]::bE d [Pb c]::cU c (T.take k)::c2 l (.loop {r with state:=.busy})::L') ab:=A;refine⟨_,_,rfl,_,A.cellAt 2 rfl 0,use (Ex (p.take k) u (A.ro 5 [3,0,1,2,4] rfl)) ?_⟩;rintro _ ad ⟨rfl,g⟩;have es:fR (T.take k) y e=T.take (k+1):=by
   rw[mA,s];refine PZ λq Y=>?_;have Q:=p.cX;have C:=(cT.1 s).1;rw[<- fA k T,ln C]at Q;have f:=(jf.1 Q).2.2 q Y T[k] fj;rw[dD C]at s;rw[cQ s]at f;exact f
  rw[es]at g;have g:Sep E (cU c (T.take (k+1))::cA (dJ 3 t R)::bE a [Pb t]::bE d [Pb c]::c2 l (.loop {r with state:=.busy})::L') ad:=g;refine⟨_,rfl,e0.i (g.ro 5 [4,2,3,0,1] rfl) (λae B=>?_)⟩;have er:({ {r with state:=.busy} with state:=if(none:Option Code).isNone then .ready else .done,pending:=none} :Loop)=r:=by
   cases r;simp only at o F;subst o F;rfl
  rw[er]at B;exact N ae (Sep.swap (Sep.cA.2 (B.ro 5 [1,2,3,0,4] rfl)))
 ·intro b W m;have el:(kE T).length=T.length:=by rw[D,eb]
  rw[el,fN]at m;have i:=Sep.cA.1 m.swap;have i:Sep E (bE a [Pb t]::bE d [Pb c]::cU c T::c2 b (.deferred (some []))::cA (dJ 3 t R)::emp::L) W:=i;have f:=i.ro 6 [3,2,4,0,1,5] rfl;have j:=(f.putObj (o':=.deferred none)).tail;refine⟨_,i.cellAt 1 rfl 0,f.dp,c,rfl,?_⟩;have H:=Z (j.ro 5 [1,0] rfl);exact H.swap
 ·intro b k W _ m;exact(Sep.cC.1 m.swap).1.elim
end Go.Mp
namespace Go.Sp
open Go Go.Vc
structure g0(w:World)(s:Sl)(l:bU):Prop where
 n:s.n=l.length
 rd:∀(i:Nat) x,l[i]?=some x->∃a,s.p=some a/\w.cell? (a.add i)=some (Iv x)
variable{E:Env}{L:ch}{w W:World}{P:Program}
def g0.grow{s:Sl}{l:bU}(h:g0 W s l)(g:Grow W w):g0 w s l:=⟨h.n,λi x hx=>let ⟨a,h1,b⟩:=h.rd i x hx;⟨a,h1,g.cell b⟩⟩
def g0.el{s:Sl}{l:bU}{i:Int}{F:Int->Prop}(h:g0 w s l)(k:Nat)(d:i=k){x:Int}(hx:l[k]?=some x)(f:F x):cx s.p s.n i 1 λa=>∃v:Int,w.cell? a=some (Iv v)/\F v:=by
 have c:=(cT.1 hx).1;obtain⟨a,hp,b⟩:=h.rd k x hx;have:=h.n;refine⟨a,hp,⟨bA,bA⟩,x,?_,f⟩;have e:i.toNat=k:=by omega
 rw[e,fC];exact b
def g0.row{s:Sl}{l:bU}{q:Nat}(h:Sep E L w)(e:L[q]?=some (bC s 1 (bD l)))(d:s.n=l.length):g0 w s l:=by
 refine⟨d,λi x hx=>?_⟩;have a:=(cT.1 hx).1;have h1:=h.fr q e;obtain⟨b,spare,hp,f,g,j,c⟩:=bC.h2 h1 bA;refine⟨_,hp,?_⟩;rw[cj,e5,bC.cell c (by rw[Zy];exact a),y9,hx];rfl
def o8{g:Value}{args:Array Value}{K:bh7}{R:Ending->bh6}(h:eX P g args w (bW K))(k:∀v w',K v w'->R (.returned v) w'):eX P g args w R:=by
 obtain⟨f,ca,b,ho,a⟩:=h;exact⟨f,ca,b,ho,a.mono λe w' he=>by obtain⟨v,rfl,c⟩:=he;exact k v w' c⟩
end Go.Sp
namespace Go.Mp
open Go Go.Vc Go.Sp Go.Proofs Go.Kt
variable{E:Env}{L:ch}{w W:World}
def Ey{s:Sl}{l:bU}(b:g0 w s l)(h:l.length<4611686018427387904)(v:Int):Calls P pW #[Sv s,Iv v] w (bW λr w'=>r=.bool (l.contains v)/\w'=w):=by
 apply D1;unfold y5 qQ;have key:Calls P vG #[Sv s,Iv v] w (bW λr w'=>(∃x:Int,r=Iv x/\decide (x≥0)=l.contains v)/\w'=w):=by
  apply D5;unfold y6 qD qO qW;have m:=b.n;refine⟨λi w'=>w'=w/\∃k:Nat,i=k/\k<=l.length/\(l.take k).contains v=false,λi _=>(l.length-i).toNat,⟨rfl,0,rfl,ec _,by simp⟩,?_⟩;rintro _ i d ⟨rfl,k,rfl,j,a⟩;refine cL (λg=>?_) (λf=>?_)
  ·obtain⟨x,hx⟩:∃x,l[k]?=some x:=⟨_,dL⟩
   refine b.el k rfl hx ?_;refine eD (λe=>?_) (λc=>?_)
   ·subst e;refine⟨⟨_,rfl,?_⟩,rfl⟩;rw[dh bA];exact(kI.2 (eu hx)).symm
   ·refine⟨⟨rfl,k+1,c1,bA,?_⟩,by rw[c1];dsimp only;omega⟩;rw[fw hx,List.contains_eq_any_beq,He,<- List.contains_eq_any_beq,a];simpa using c
  ·refine⟨⟨_,rfl,?_⟩,rfl⟩;have:k=l.length:=by omega
   subst this;rw[fN]at a;rw[a];rfl
 refine use key ?_;rintro _ d ⟨⟨x,rfl,hx⟩,rfl⟩;refine⟨x,rfl,?_,rfl⟩;rw[hx]
def P0{b:Nat}{l:List G}{A:Asn}{is:Value}{isB:Nat->Bool}(hw:WF l)(r:∀i x,l[i]?=some x->∀L w,Sep E (dT b l::A::L) w->eX P is #[Iv (i:Nat)] w (bW λv w'=>v=.bool (isB i)/\Sep E (dT b l::A::L) w'))(h:Sep E (dT b l::A::L) w):Calls P C9 #[Pb b,is] w (bW λv w'=>∃s:Sl,v=Sv s/\s.n=(n2 l isB).length/\Sep E (bC s 1 (bD (n2 l isB))::dT b l::A::L) w'):=by
 apply XM;unfold Mc qC qK qW qf qh qy;obtain⟨H,M,B⟩:=dT.get h;refine⟨_,rfl,H,B.cell 0,?_⟩;let part:Nat->bU:=λk=>((List.range k).filter λi:Nat=>dw l (i:Int)&&isB i).map Int.ofNat;have D:=hw.fq;have z:∀k,k<=l.length->(part k).length<=64:=λk t=>by
  have:=lp (λi:Nat=>dw l (i:Int)&&isB i) (List.range k);simp only[part,eb];rw[G3]at this;omega
 refine⟨λs i w'=>∃k:Nat,i=k/\k<=l.length/\s.n=(part k).length/\Sep E (bC s 1 (bD (part k))::dT b l::A::L) w',λ_ i _=>(l.length-i).toNat,⟨0,rfl,ec _,rfl,bC.none_ h⟩,?_⟩;rintro _ s i I ⟨k,rfl,t,g,h1⟩;have n:part (k+1)=part k++(if(dw l (k:Int)&&isB k)=true then[Int.ofNat k]else[]):=by
  simp only[part];rw[Hb,sJ,jV];congr 1;rw[jq];split<;>rfl
 refine cL (λK=>?_) (λJ=>?_)
 ·have a:k<l.length:=by omega
  obtain⟨x,hx⟩:∃x,l[k]?=some x:=⟨_,dD a⟩
  have c:dw l (k:Int)=x.live:=by unfold dw;rw[dk,hx,dh bA];rfl
  refine⟨λy w'=>y=(dw l (k:Int)&&isB k)/\Sep E (bC s 1 (bD (part k))::dT b l::A::L) w',?_,?_⟩
  ·obtain⟨s1,u,d⟩:=dT.get (h1.fr 1 rfl);refine⟨_,rfl,s1,d.cell 0,ub 1 d rfl u rfl hx (λN _ C=>⟨x.live,?_,?_⟩)⟩;·rw[cj];exact C 1 bO
   ·refine cw (λf=>?_) (λf=>?_)
    ·refine o8 (r k x hx (bC s 1 (bD (part k))::L) I (h1.ro 3 [1,2,0] rfl)) ?_;rintro _ w2 ⟨rfl,o⟩;refine⟨_,rfl,?_,o.ro 3 [2,0,1] rfl⟩;rw[c,f];rfl
    ·refine⟨?_,h1⟩;rw[c,f];rfl
  ·rintro _ y w2 ⟨j,d⟩;refine cw (λF=>?_) (λhf=>?_)
   ·rw[F]at j;refine Al.i d (λq O o=>?_);refine rV g (by have:=z k t;omega) o (λs' Q m p=>?_);have e:part (k+1)=part k++[(k:Int)]:=by rw[n,bM j.symm];rfl
    rw[<- e]at m p;exact⟨⟨k+1,c1,a,m,p⟩,by rw[c1];dsimp only;omega⟩
   ·rw[hf]at j;have e:part (k+1)=part k:=by rw[n,bJ (by rw[<- j];decide),hF]
    rw[<- e]at g d;exact⟨⟨k+1,c1,a,g,d⟩,by rw[c1];dsimp only;omega⟩
 ·have:k=l.length:=by omega
  subst this;exact⟨s,rfl,g,h1⟩
def v8{b:Nat}{l:List G}{g:Int}(hw:WF l)(h:Sep E (dT b l::L) w):Calls P tF #[Pb b,Iv g] w (bW λv w'=>∃s:Sl,v=Sv s/\s.n=(hT l g).length/\
  Sep E (bC s 1 (bD (hT l g))::dT b l::L) w'):=by
 apply W5;unfold Ly qC qD qF qJ qb;refine Al.i h (λm y h1=>Al.i h1 (λn w2 a=>?_));refine⟨_,a.cellAt 1 rfl 0,_,a.cell 0,?_⟩;refine use (ke (q:=2) a rfl) ?_;rintro _ u ⟨rfl,rfl⟩;refine⟨_,rfl,cw (λj=>?_) (λj=>?_)⟩
 ·have:dw l g=false:=by simpa using j
  have e:hT l g= []:=by unfold hT;rw[this];rfl
  rw[e];exact⟨⟨none,0,0⟩,rfl,rfl,bC.none_ (a.ro 3 [2] rfl)⟩
 ·have t:dw l g=true:=by simpa using j
  refine⟨_,a.cellAt 1 rfl 0,?_⟩;have p:Sep E (dT b l::star (bE m [Pb b]) (bE n [Iv g])::L) u:=(Sep.star.2 (a.ro 3 [1,0,2] rfl)).swap;refine use (P0 (isB:=λi=>(c8 l i).contains g) hw ?_ p) ?_
  ·intro i x hx L' o c;refine⟨Da,_,rfl,by kernel_rfl,?_⟩;show Calls P Da #[Iv (i:Nat),Pb m,Pb n] o _;apply XN;unfold Md qD qF qJ qb zG;have r:Sep E (bE m [Pb b]::bE n [Iv g]::dT b l::L') o:=Sep.star.1 c.swap;refine Dr.i r (λz d=>?_);refine⟨_,d.cell 0,_,d.cellAt 1 rfl 0,?_⟩;refine use (rW hw (d.fr 2 rfl)) ?_;rintro _ A ⟨s,rfl,k,f⟩;refine⟨s,rfl,_,f.cellAt 3 rfl 0,rfl,?_⟩;refine use (Ey (g0.row (q:=0) f rfl k) (by have:=p4 hw i;omega) g) ?_;rintro _ B ⟨rfl,rfl⟩;refine⟨_,rfl,rfl,?_⟩;exact(Sep.star.2 (f.ro 4 [2,3,1] rfl)).swap
  ·rintro _ o ⟨s,rfl,k,c⟩;have e:hT l g=n2 l (λi=>(c8 l i).contains g):=by unfold hT;rw[bM t]
   rw[e];exact⟨s,rfl,s,rfl,k,c.ro 3 [0,1] rfl⟩
def aLD{b:Nat}{l:List G}{g:Int}(hw:WF l)(h:Sep E (dT b l::L) w):Calls P JH #[Pb b,Iv g] w (bW λv w'=>∃s:Sl,v=Sv s/\s.n=(jX l g).length/\
  Sep E (bC s 1 (bD (jX l g))::dT b l::L) w'):=by
 apply XC;unfold L2 qC qD qF qJ qb;refine Al.i h (λj B h1=>Al.i h1 (λk w2 a=>?_));refine⟨_,a.cellAt 1 rfl 0,_,a.cell 0,?_⟩;refine use (ke (q:=2) a rfl) ?_;rintro _ z ⟨rfl,rfl⟩;refine⟨_,rfl,cw (λf=>?_) (λf=>?_)⟩
 ·have:dw l g=false:=by simpa using f
  have e:jX l g= []:=by unfold jX;rw[this];rfl
  rw[e];exact⟨⟨none,0,0⟩,rfl,rfl,bC.none_ (a.ro 3 [2] rfl)⟩
 ·have u:dw l g=true:=by simpa using f
  refine⟨_,a.cellAt 1 rfl 0,?_⟩;have p:Sep E (dT b l::star (bE j [Pb b]) (bE k [Iv g])::L) z:=(Sep.star.2 (a.ro 3 [1,0,2] rfl)).swap;refine use (P0 (isB:=λi=>((l[i]?).map G.up).getD (-1)==g) hw ?_ p) ?_
  ·intro i x hx L' m d;refine⟨Dt,_,rfl,by kernel_rfl,?_⟩;show Calls P Dt #[Iv (i:Nat),Pb j,Pb k] m _;apply Yj;unfold MF qD qK qL qW qb;have r:Sep E (bE j [Pb b]::bE k [Iv g]::dT b l::L') m:=Sep.star.1 d.swap;refine Dr.i r (λC c=>?_);obtain⟨s1,o,n⟩:=dT.get (c.fr 2 rfl);refine⟨_,c.cell 0,⟨_,rfl,s1,n.cell 0,ub 1 n rfl o rfl hx (λA _ t=>⟨x.up,?_,_,c.cellAt 1 rfl 0,?_,?_⟩)⟩⟩;·rw[cj];exact t 0 bO
   ·rw[hx];rfl
   ·exact(Sep.star.2 c).swap
  ·rintro _ m ⟨s,rfl,y,d⟩;have e:jX l g=n2 l (λi=>((l[i]?).map G.up).getD (-1)==g):=by unfold jX;rw[bM u]
   rw[e];exact⟨s,rfl,s,rfl,y,d.ro 3 [0,1] rfl⟩
def P1:g9 P V4=some (16,2,[Iv 0,.bool false]):=by kernel_rfl
def Ez{b:Nat}{l:List G}{p:Int}(hw:WF l)(h:Sep E (dT b l::L) w):Calls P Jm #[Pb b,Iv p] w (bW λv w'=>v=.tuple #[Iv (gr l p).2.1,Iv (gr l p).2.2]/\Sep E (dT b (gr l p).1::L) w'):=by
 apply WX;unfold Lq qF qK qQ;have A:=hw.fq;refine use (ke (q:=0) h rfl) ?_;rintro _ I ⟨rfl,rfl⟩;refine⟨_,rfl,cw (λk=>?_) (λk=>?_)⟩
 ·have:dw l p=false:=by simpa using k
  unfold gr;rw[bM this];exact⟨rfl,h⟩
 have m:¬ dw l p=false:=by simpa using k
 refine use (aKl hw h) ?_;rintro _ w2 ⟨rfl,g⟩;refine⟨_,rfl,hk (λd=>?_) (λH=>?_)⟩;·unfold gr;rw[bJ m,bM d];exact⟨rfl,g⟩
 obtain⟨s,r,j⟩:=dT.get g;refine⟨_,rfl,s,j.cell 0,hk (λd=>?_) (λB=>?_)⟩;·unfold gr;rw[bJ m,cM,eG];exact⟨rfl,g⟩
 refine⟨_,rfl,s,j.cell 0,Al.i j (λq J o=>?_)⟩;have C:=Src.bE (n:=1) (c:=1) o (i:=0) rfl P1 rfl (λu hu=>by simp at hu;rcases hu with rfl|rfl<;>rfl);refine bC.append (o.ro 3 [2,0,1] rfl) P1 rfl C bA bA (λs' D f y=>?_);have z:Sep E (bE b [Sv s]::bC s' 2 (bQ G.vs (l++[⟨p,true⟩]))::L) D:=by
  have e:bQ G.vs (l++[⟨p,true⟩])=bQ G.vs l++[Iv p,.bool true]:=by rw[mX,o4];rfl
  rw[e];exact y.ro 3 [2,0] rfl
 refine⟨_,rfl,St.i z (by show 0<1;decide) (λF a=>?_)⟩;have a:Sep E (bE b [.slice s'.p s'.n s'.c]::bC s' 2 (bQ G.vs (l++[⟨p,true⟩]))::L) F:=a;refine⟨_,rfl,s',a.cell 0,?_⟩;have t:gr l p=(l++[⟨p,true⟩],(l.length:Int),0):=by unfold gr;rw[bJ m,cM,cM]
 rw[t];refine⟨?_,dT.mk (by rw[f,r];simp) a⟩;have x:i64.wrap (((s'.n:Nat):Int)-1)=(l.length:Int):=by rw[f,r,cH bA bA];omega
 rw[x]
def nI{b:Nat}{l:List G}{g:Int}(hw:WF l)(h:Sep E (dT b l::L) w):Calls P Jo #[Pb b,Iv g] w (bW λv w'=>v=Iv (iF l g).2/\Sep E (dT b (iF l g).1::L) w'):=by
 apply WZ;unfold Ls qF qJ qK qW;refine eD (λa=>?_) (λa=>?_);·unfold iF;rw[bM a];exact⟨rfl,h⟩
 refine use (ke (q:=0) h rfl) ?_;rintro _ C ⟨rfl,rfl⟩;refine⟨_,rfl,cw (λi=>?_) (λi=>?_)⟩
 ·have:dw l g=false:=by simpa using i
  unfold iF;rw[bJ a,bM this];exact⟨rfl,h⟩
 have m:dw l g=true:=by simpa using i
 have c:¬ dw l g=false:=by rw[m];decide
 refine use (aLD hw h) ?_;rintro _ w2 ⟨s,rfl,o,j⟩;refine⟨s,rfl,eW (λz=>?_) (λhle=>?_)⟩
 ·have:jX l g≠ []:=λe=>by rw[e]at o;simp at o;omega
  unfold iF;rw[bJ a,bJ c,bM this];exact⟨rfl,j.tail⟩
 have y:¬ jX l g≠ []:=λp=>p (uG bA);obtain⟨n,rfl,x,hx,A⟩:=iE.1 m;obtain⟨s1,d,f⟩:=dT.get j.tail;have r:iF l (n:Int)=(l.set n ⟨x.up,false⟩,0):=by
  unfold iF;rw[bJ a,bJ c,bJ y,dk,hx];rfl
 rw[r];refine⟨_,rfl,s1,f.cell 0,ub 1 f rfl d rfl hx (λB k _=>?_)⟩;have t:=f.swap;rw[cj];refine tT G.kD (a':=⟨x.up,false⟩) t k hx bO rfl (λD u=>⟨rfl,dT.mk ?_ u.swap⟩);rw[dA];exact d
end Go.Mp
namespace Go.Kw
def Rg.vs(x:Rg):List Value:=[Iv x.a,Iv x.b,Iv x.kind,Iv x.file,Iv x.idx,.bool x.wr]
def Rg.ue(x:Rg):x.vs.length=6:=rfl
def P2:∀ {l:List Rg} {a:Int},ft a l=true->0<=a->l= []\/a+l.length<=65536
 |[],_,_,_=>.inl rfl
 |x::r,a,h,e=>by
  right;simp only[ft,dG,gj,Rg.valid]at h;obtain⟨⟨⟨h1,_⟩,c⟩,b⟩:=h;rcases P2 b (bA)with rfl|d;·simp;omega
  ·simp;omega
def z7{l:List Rg}(h:ft 0 l=true):l.length<=65536:=by
 rcases P2 h (e7 0)with rfl|a;·simp
 ·omega
def Aa:∀ {l:List Rg} {a:Int},ft a l=true->∀x∈l,x.valid=true
 |x::r,a,h,y,b=>by
  simp only[ft,dG]at h;rcases ey.1 b with rfl|b;·exact h.1.1
  ·exact Aa h.2 y b
def EA(q:Rg->Bool):∀l:List Rg,eY q l<=l.length
 |[]=>dN _
 |x::r=>by unfold eY;have:=EA q r;split<;>simp;omega
def P3{q:Rg->Bool}:∀ {l:List Rg} {k:Nat} {x:Rg},l[k]?=some x->q x=true->(∀j y,j<k->l[j]?=some y->q y=false)->eY q l=k
 |y::r,0,x,h,b,_=>by simp at h;subst h;unfold eY;rw[bM b]
 |y::r,k+1,x,h,b,a=>by
  unfold eY;rw[bJ (by rw[a 0 y bA rfl];decide),P3 (l:=r) (k:=k) (by simpa using h) b λj z d c=>a (j+1) z bA (by simpa using c)]
def EB{q:Rg->Bool}:∀ {l:List Rg},(∀(j:Nat) y,l[j]?=some y->q y=false)->eY q l=l.length
 |[],_=>rfl
 |y::r,h=>by
  unfold eY;rw[bJ (by rw[h 0 y rfl];decide),EB (l:=r) λj z a=>h (j+1) z (by simpa using a)];rfl
def Ab{q:Rg->Bool}:∀ {l:List Rg} {x:Rg},l[eY q l]?=some x->q x=true
 |y::r,x,h=>by
  unfold eY at h;split at h;·next a=>simp at h;subst h;exact a
  ·exact Ab (l:=r) (by simpa using h)
end Go.Kw
namespace Go.Mp
open Go Go.Vc Go.Sp Go.Proofs Go.Kc Go.Kv Go.Kw
variable{E:Env}{L:ch}{w W:World}
def cP(s:Sl)(l:List Rg):Asn:=bC s 6 (bQ Rg.vs l)
def gw{b i:Nat}{x:Rg}{F:Int->Int->Int->Int->Int->Bool->Prop}(h:Sep E L w)(a:L[i]?=some (bE b x.vs))(k:F x.a x.b x.kind x.file x.idx x.wr):
  ∃c:Int,w.cell? ((⟨b,0,none⟩:Addr).add 0)=some (Iv c)/\∃d:Int,w.cell? ((⟨b,0,none⟩:Addr).add 1)=some (Iv d)/\∃e:Int,w.cell? ((⟨b,0,none⟩:Addr).add 2)=some (Iv e)/\∃f:Int,w.cell? ((⟨b,0,none⟩:Addr).add 3)=some (Iv f)/\∃g:Int,w.cell? ((⟨b,0,none⟩:Addr).add 4)=some (Iv g)/\∃j:Bool,w.cell? ((⟨b,0,none⟩:Addr).add 5)=some (.bool j)/\F c d e f g j:=
 ld h i rfl a rfl (ld h i rfl a rfl (ld h i rfl a rfl (ld h i rfl a rfl (ld h i rfl a rfl (ld h i rfl a rfl k)))))
def o9{s:Sl}{l:List Rg}{i:Int}{k:Nat}{x:Rg}{F:Addr->Int->Int->Int->Int->Int->Bool->Prop}(q:Nat)(h:Sep E L w)(p:L[q]?=some (cP s l))(o:s.n=l.length)(n:i=k)(hx:l[k]?=some x)(r:∀a,F a x.a x.b x.kind x.file x.idx x.wr):
  cx s.p s.n i 6 λa=>∃d:Int,w.cell? (a.add 0)=some (Iv d)/\∃e:Int,w.cell? (a.add 1)=some (Iv e)/\∃f:Int,w.cell? (a.add 2)=some (Iv f)/\∃g:Int,w.cell? (a.add 3)=some (Iv g)/\∃j:Int,w.cell? (a.add 4)=some (Iv j)/\∃m:Bool,w.cell? (a.add 5)=some (.bool m)/\F a d e f g j m:=
 kZ Rg.ue q h p o n hx (λb _ c=>⟨_,by rw[cj];exact c 0 _ rfl,_,by rw[cj];exact c 1 _ rfl,_,by rw[cj];exact c 2 _ rfl,_,by rw[cj];exact c 3 _ rfl,_,by rw[cj];exact c 4 _ rfl,_,by rw[cj];exact c 5 _ rfl,r _⟩)
def P4(x:Rg)(h:Sep E L w):Calls P De #[.agg x.vs.toArray] w (bW λv w'=>v=.bool x.valid/\Sep E L w'):=by
 apply aym;unfold OM qL qg zY;refine Al.i h (λp f h1=>?_);have h1:Sep E (bE p x.vs::L) f:=h1;have bad:¬ (0<=x.a/\x.a<x.b/\x.b<=65536)->x.valid=false:=λa=>by unfold Rg.valid;rw[c4 a];rfl
 refine⟨λw'=>(0<=x.a/\x.a<x.b/\x.b<=65536)/\w'=f,ld h1 0 rfl rfl rfl (cL (λa=>⟨by rw[bad bA],h1.tail⟩) (λg=>ld h1 0 rfl rfl rfl (ld h1 0 rfl rfl rfl (hN (λa=>⟨by rw[bad bA],h1.tail⟩) (λi=>ld h1 0 rfl rfl rfl (eW (λa=>⟨by rw[bad bA],h1.tail⟩) (λj=>⟨⟨g,i,j⟩,rfl⟩))))))),?_⟩;rintro _ _ ⟨ho,rfl⟩;have k:x.valid=(if x.kind=1 then decide (x.file=0/\x.idx=0)else if x.kind=2 then decide (0<=x.file/\x.file<=1048576/\0<=x.idx/\x.idx<=2097152-(x.b-x.a))else false):=by unfold Rg.valid;rw[dh ho,lr]
 rw[k];refine ld h1 0 rfl rfl rfl (eD (λd=>?_) (λd=>eD (λb=>?_) (λb=>?_)))
 ·rw[bM d];refine ld h1 0 rfl rfl rfl (eD (λhf=>ld h1 0 rfl rfl rfl ⟨?_,h1.tail⟩) (λhf=>⟨?_,h1.tail⟩))
  ·congr 1;by_cases c:x.idx=0;·rw[dh ⟨hf,c⟩,c];rfl
   ·rw[c4 λe=>c e.2];exact beq_false_of_ne c
  ·rw[c4 λe=>hf e.1]
 ·rw[bJ d,bM b];refine ld h1 0 rfl rfl rfl (hN (λf1=>ld h1 0 rfl rfl rfl (hN (λf2=>ld h1 0 rfl rfl rfl (hN (λf3=>ld h1 0 rfl rfl rfl (ld h1 0 rfl rfl rfl (ld h1 0 rfl rfl rfl ⟨?_,h1.tail⟩))) (λa=>⟨?_,h1.tail⟩))) (λa=>⟨?_,h1.tail⟩))) (λa=>⟨?_,h1.tail⟩))
  ·rw[cH (n:=x.b-x.a) bA bA,cH bA bA];exact eO Value.bool (pC.2 ⟨λe=>⟨f1,f2,f3,e⟩,λe=>e.2.2.2⟩)
  ·rw[c4 λe=>bA]
  ·rw[c4 λe=>bA]
  ·rw[c4 λe=>bA]
 ·rw[bJ d,bJ b];exact⟨rfl,h1.tail⟩
def EC{s:Sl}{l:List Rg}(n:s.n=l.length)(t:l.length<1000000)(h:Sep E (cP s l::L) w):Calls P yO #[Sv s] w (bW λv w'=>v=.bool (ft 0 l)/\Sep E (cP s l::L) w'):=by
 apply ayl;unfold OL qF qI qL qU qW zR zg;refine⟨λa i w'=>∃k:Nat,i=k/\k<=l.length/\ft a (l.drop k)=ft 0 l/\Sep E (cP s l::L) w',λ_ i _=>(l.length-i).toNat,⟨0,rfl,ec _,rfl,h⟩,?_⟩;rintro _ a _ y ⟨k,rfl,u,b,h1⟩;refine cL (λr=>?_) (λq=>?_)
 ·obtain⟨x,hx⟩:∃x,l[k]?=some x:=⟨_,dL⟩
  have j:l.drop k=x::l.drop (k+1):=by
   have f:=(cT.1 hx).1;rw[ln f];rw[dD f]at hx;rw[cQ hx]
  rw[j]at b;simp only[ft]at b;refine o9 0 h1 rfl n rfl hx (λ_=>Al.i h1 (λp w2 g=>eh _ g rfl (λo e=>?_)));have e:Sep E (bE p x.vs::cP s l::L) o:=e;refine gw e (i:=0) rfl (use (P4 x e) ?_);rintro _ z ⟨rfl,d⟩;refine⟨_,rfl,cw (λc=>?_) (λc=>ld d 0 rfl rfl rfl (cL (λm=>?_) (λm=>ld d 0 rfl rfl rfl ⟨⟨k+1,c1,bA,?_,d.tail⟩,?_⟩)))⟩
  ·have c:x.valid=false:=by simpa using c
   rw[c]at b;exact⟨by rw[<- b];rfl,d.tail⟩
  ·rw[c4 bA,sN,xz]at b;exact⟨by rw[<- b],d.tail⟩
  ·have c:x.valid=true:=by simpa using c
   rw[c,dh bA]at b;exact b
  ·rw[c1];dsimp only;omega
 ·have:k=l.length:=by omega
  subst this;rw[xy]at b;exact⟨by rw[<- b];rfl,h1⟩
def P5{s:Sl}{l:List Rg}{f:Value}{q:Rg->Bool}{A:Asn}(o:∀x w,Sep E (A::cP s l::L) w->eX P f #[.agg x.vs.toArray] w (bW λv w'=>v=.bool (q x)/\Sep E (A::cP s l::L) w'))(n:s.n=l.length)(u:l.length<1000000)(h:Sep E (A::cP s l::L) w):
  Calls P Df #[Sv s,f] w (bW λv w'=>v=Iv (if eY q l<l.length then(eY q l:Int)else -1)/\Sep E (A::cP s l::L) w'):=by
 apply X3;unfold Mm qO qW zR;refine⟨λi w'=>∃k:Nat,i=k/\k<=l.length/\(∀j y,j<k->l[j]?=some y->q y=false)/\Sep E (A::cP s l::L) w',λi _=>(l.length-i).toNat,⟨0,rfl,ec _,λj y g=>absurd g bA,h⟩,?_⟩;rintro _ _ p ⟨k,rfl,z,a,h1⟩;refine cL (λt=>?_) (λr=>?_)
 ·obtain⟨x,hx⟩:∃x,l[k]?=some x:=⟨_,dL⟩
  refine o9 1 h1 rfl n rfl hx (λ_=>o8 (o x p h1) ?_);rintro _ w2 ⟨rfl,d⟩;refine⟨_,rfl,cw (λc=>⟨?_,d⟩) (λc=>⟨⟨k+1,c1,bA,λj y g b=>?_,d⟩,?_⟩)⟩;·rw[P3 hx c a,eG]
  ·rcases gS j k with e|e;·exact a j y e b
   ·have:j=k:=by omega
    subst this;rw[hx]at b;cases b;exact c
  ·rw[c1];dsimp only;omega
 ·have m:k=l.length:=by omega
  subst m;refine⟨?_,h1⟩;rw[EB λj y b=>a j y (cT.1 b).1 b,cM]
end Go.Mp
namespace Go.Sp
open Go Go.Vc
variable{E:Env}{L:ch}{w:World}{P:Program}{s:Sl}{m:Nat}{vs:List Value}
def aL4{n c:Nat}(a:c<n):Builtin.nextslicecap n c<=4*n:=by
 unfold Builtin.nextslicecap;split;·omega
 ·split;·omega
  ·have go:∀r c,c<=n+(n+768)/4->Builtin.growBy n r c<=n+(n+768)/4:=by
    intro r;induction r with
    |zero=>intro c a;exact a
    |succ r b=>
     intro c a;unfold Builtin.growBy;split;·exact a
     ·exact b _ bA
   have:=go 4 c bA;omega
def bC.pre{x:Value}{k j:Nat}{news:List Value}{st F ty:TypeId}{cG:Nat}{zs:List Value}(h:Sep E (bC s m vs::L) w)(B:g9 P st=some (cG,m,zs))(C:zs.length=m)(t:Src P m F x j news w)(z:0<j)(O:k<=s.n)(r:4*(k+j)*cG<=281474976710656)(Q:k+j<4611686018427387904){G:Sl->bh6}(g:∀s' d,s'.n=k+j->Sep E (bC s' m (vs.take (k*m)++news)::bC s m vs::L) d->G s' d):
  ∃D:Sl,∃d,Sem.run P (Builtin.append_ #[st,F] ty #[.slice (gb s.p 0 k m) (k-0) (k-0),x]) w=.ok (Sv D) d/\G D d:=by
 have l:=t.newsLen;have f:∀c,c<k+j->Builtin.nextslicecap (k+j) c*cG<=281474976710656:=λc M=>mD (kv _ (aL4 M)) r;rw[Hn];have H:=h;unfold bC at h;split at h
 ·next hp=>
  obtain⟨⟨h1,n,v⟩,h⟩:=Sep.cC.1 h;have A:k=0:=by omega
  subst A;have e:gb s.p 0 0 m=none:=by unfold gb;rw[bM rfl,hp]
  rw[e];rw[e5]at g f;refine jj.i H B t z bA (f 0 z) (λu c' d i p=>g _ d rfl ?_);rw[n1,xA,lR];refine bC.make (spare:=(Builtin.zeroCells zs.toArray (c'-j)).toList) p l ?_ i;rw[tQ];simp only[l,G2,C,<- jW];congr 1;omega
 ·next a q=>
  obtain⟨spare,h⟩:=Sep.ex.1 h;obtain⟨⟨h1,n,v,p,I⟩,h⟩:=Sep.cC.1 h;obtain⟨b,o,sp⟩:=a;simp only at h1 n;subst h1 n;have e:gb s.p 0 k m=some ⟨b,0,none⟩:=by
   unfold gb;split;·exact q
   ·rw[q];show some (Addr.add ⟨b,0,none⟩ (0*m))=_;rw[cj,n1]
  rw[e];have R:k*m<=s.n*m:=kv _ O;refine append.i h B t (by simp;omega) (λN=>bA) bA (f _) (λN=>bA) (λ_ u c' d i y=>g _ d rfl ?_);have e:((vs++spare).drop 0).take (k*m)=vs.take (k*m):=by rw[sM,sE bA]
  rw[e]at y;have J:Sep E (bE u (vs.take (k*m)++news++(Builtin.zeroCells zs.toArray (c'-(k+j))).toList)::bC s m vs::L) d:=by
   refine Sep.swap ?_;unfold bC;rw[q];exact Sep.ex.2 ⟨spare,Sep.cC.2 ⟨⟨rfl,rfl,v,p,I⟩,y.swap⟩⟩
  have S:(k+j)*m=k*m+j*m:=jW _ _ _;refine bC.make (spare:=(Builtin.zeroCells zs.toArray (c'-(k+j))).toList) J (by simp;omega) ?_ i;rw[tQ];have K:(vs.take (k*m)++news).length=(k+j)*m:=by simp;omega
  rw[K,G2,C,<- jW];congr 1;omega
end Go.Sp
namespace Go.Mp
open Go Go.Vc Go.Sp Go.Proofs Go.Kc Go.Kv Go.Kw
variable{E:Env}{L:ch}{w W:World}
def p5:g9 P V5=some (48,6,[Iv 0,Iv 0,Iv 0,Iv 0,Iv 0,.bool false]):=by kernel_rfl
def ED(x:Rg):∀u∈x.vs,u.oneCell'=true:=by
 intro u hu;simp only[Rg.vs,ey,ra,ri]at hu;rcases hu with rfl|rfl|rfl|rfl|rfl|rfl<;>rfl
def P6(l:List Rg):∀u∈bQ Rg.vs l,u.oneCell'=true:=by
 intro u hu;obtain⟨c,a,hu⟩:=List.mem_flatten.1 hu;obtain⟨x,_,rfl⟩:=e4.1 a;exact ED x u hu
def aLK{s:Sl}{l:List Rg}(x:Rg)(m:s.n=l.length)(M:l.length<1000000)(h:Sep E (cP s l::L) w):
  Calls P Ju #[Sv s,.agg x.vs.toArray] w (bW λv w'=>∃s':Sl,v=.tuple #[.slice s'.p s'.n s'.c,Iv (ek l x).2]/\
   (((ek l x).2≠0/\(ek l x).1=l/\Sep E (cP s l::L) w')\/((ek l x).2=0/\s'.n=(ek l x).1.length/\Sep E (cP s' (ek l x).1::L) w'))):=by
 obtain⟨n,o⟩:∃n,eY (λy=>decide (x.a<y.b)) l=n:=⟨_,rfl⟩
 have aa:n<=l.length:=by rw[<- o];exact EA _ _
 obtain⟨K,A⟩:∃K:bh7,K= λv w'=>∃s':Sl,v=.tuple #[.slice s'.p s'.n s'.c,Iv (ek l x).2]/\
   (((ek l x).2≠0/\(ek l x).1=l/\Sep E (cP s l::L) w')\/((ek l x).2=0/\s'.n=(ek l x).1.length/\Sep E (cP s' (ek l x).1::L) w')):=⟨_,rfl⟩
 rw[<- A];have bad:∀w',(ft 0 l=false\/x.valid=false\/64<=l.length)->Sep E (cP s l::L) w'->K (.tuple #[.slice none 0 0,Iv 1]) w':=by
  intro w' j q;have e:ek l x=(l,1):=by unfold ek;rw[bM j]
  rw[A,e];exact⟨⟨none,0,0⟩,rfl,.inl ⟨by show(1:Int)≠0;decide,rfl,q⟩⟩
 apply aA4;unfold Ow q9 qF qL qQ qW qg zR zY;refine Al.i h (λp V h1=>?_);have h1:Sep E (bE p x.vs::cP s l::L) V:=h1;refine⟨λw'=>(ft 0 l=true/\x.valid=true/\l.length<64)/\Sep E (bE p x.vs::cP s l::L) w',use (EC m M h1.swap) ?_,?_⟩
 ·rintro _ w2 ⟨rfl,k⟩;refine⟨_,rfl,cw (λt=>bad _ (.inl (by simpa using t)) (k.fr 0 rfl |>.ro 2 [0] rfl)) (λt=>gw k.swap (i:=0) rfl (use (P4 x k.swap) ?_))⟩;rintro _ H ⟨rfl,d⟩;refine⟨_,rfl,cw (λu=>bad _ (.inr (.inl (by simpa using u))) d.tail) (λu=>hk (λj=>bad _ (.inr (.inr bA)) d.tail) (λj=>⟨⟨by simpa using t,by simpa using u,bA⟩,d⟩))⟩
 rintro _ w2 ⟨⟨t,u,U⟩,k⟩;have a:ek l x=(match l[n]? with|some y=>if y.a<x.b then(l,4)else(l.take n++x::l.drop n,0)|none=>(l.take n++x::l.drop n,0)):=by
  unfold ek;rw[bJ (by rw[t,u];rintro(e|e|e)<;>first|cases e|omega),o];rfl
 refine use (P5 (q:=λy=>decide (x.a<y.b)) (λy H d=>⟨_,_,rfl,by kernel_rfl,?_⟩) m M k) ?_
 ·show Calls P JQ #[.agg y.vs.toArray,Pb p] H _;apply ayj;unfold ON qL zY;refine Al.i d (λr S g=>?_);have g:Sep E (bE r y.vs::bE p x.vs::cP s l::L) S:=g;exact ld g 0 rfl rfl rfl (ld g 1 rfl rfl rfl ⟨rfl,g.tail⟩)
 rintro _ H ⟨rfl,d⟩;rw[o];refine⟨_,rfl,λi w'=>i=n/\Sep E (bE p x.vs::cP s l::L) w',cL (λj=>⟨?_,d⟩) (λj=>⟨?_,d⟩),?_⟩;·split at j<;>omega
 ·split at j;·next e=>rw[bM e]
  ·omega
 rintro _ _ S ⟨rfl,g⟩;refine⟨λw'=>(ek l x=(l.take n++x::l.drop n,0))/\Sep E (bE p x.vs::cP s l::L) w',Dr.i g (λW f=>cL (λZ=>?_) (λY=>⟨?_,f⟩)),?_⟩
 ·obtain⟨y,Q⟩:∃y,l[n]?=some y:=⟨_,dL⟩
  rw[Q]at a;dsimp only at a;refine kZ Rg.ue 1 f rfl m rfl Q (λb _ B=>⟨y.a,by rw[cj];exact B 0 _ rfl,?_⟩);refine ld f 0 rfl rfl rfl (cL (λB=>?_) (λB=>⟨?_,f⟩))
  ·rw[bM B]at a;rw[A,a];exact⟨⟨none,0,0⟩,rfl,.inl ⟨by show(4:Int)≠0;decide,rfl,f.tail⟩⟩
  ·rw[cM]at a;exact a
 ·rw[fH bA]at a;exact a
 rintro _ W ⟨F,f⟩;have T:=bC.cap f.tail;refine Dr.i f (λab I=>⟨⟨bA,bA⟩,⟨bA,bA⟩,gw I (i:=0) rfl ⟨⟨bA,bA⟩,Al.i I (λq X z=>?_)⟩⟩);have z:Sep E (bE q x.vs::bE p x.vs::cP s l::L) X:=z;rw[dk];have N:=Src.bE (n:=1) (c:=1) z (i:=0) rfl p5 rfl (ED x);refine bC.pre (z.ro 3 [2,0,1] rfl) p5 rfl N bA bA bA bA (λs' ad C D=>?_);rw[Ed Rg.ue]at D;have O:=Src.sub (l:=n) (n':=s.n-n) (c':=s.c-n) D (q:=1) rfl p5 bA (P6 l);refine bC.app D p5 rfl O (by rw[C];omega) (λR ae G J=>?_);rw[ZA Rg.ue,Ed Rg.ue (l.drop n),hE (l:=l.drop n) (by rw[nY,m];exact dN _)]at J;rw[A,F];refine⟨R,rfl,.inr ⟨rfl,?_,?_⟩⟩;·rw[G,C,m];simp;omega
 ·have e:bQ Rg.vs (l.take n++x::l.drop n)=bQ Rg.vs (l.take n)++x.vs++bQ Rg.vs (l.drop n):=by
   rw[mX];show _++bQ Rg.vs ([x]++l.drop n)=_;rw[mX,o4,dc]
  unfold cP;rw[e];exact J.ro 4 [0] rfl
end Go.Mp
namespace Go.Kw
def Rg.fits(x:Rg):Prop:=(0<=x.a/\x.a<x.b/\x.b<=65536)/\0<=x.idx/\x.idx<=2097152
def Rg.fc{x:Rg}(h:x.valid=true):x.fits:=by
 unfold Rg.valid at h;simp only[dG,gj]at h;refine⟨h.1,?_⟩;obtain⟨h1,a⟩:=h;split at a;·simp at a;omega
 ·split at a;·simp at a;omega
  ·cases a
end Go.Kw
namespace Go.Mp
open Go Go.Vc Go.Sp Go.Proofs Go.Kc Go.Kv Go.Kw
variable{E:Env}{L:ch}{w W:World}
def aKA{x:Rg}{a b:Int}(hx:x.fits)(u:0<=a/\a<=131072)(h:Sep E L w):Calls P JR #[.agg x.vs.toArray,Iv a,Iv b] w (bW λv w'=>v=.agg (prt x a b).vs.toArray/\Sep E L w'):=by
 apply azt;unfold OP qL qU qg zR zY zg;refine Al.i h (λp z h1=>Al.i h1 (λq w2 c=>?_));have c:Sep E (bE q [Iv 0,Iv 0,Iv 0,Iv 0,Iv 0,.bool false]::bE p x.vs::L) w2:=c;obtain⟨y,k⟩:∃y:Rg,y= {x with idx:=if x.kind=2 then x.idx+(a-x.a)else x.idx} :=⟨_,rfl⟩
 refine⟨λw'=>Sep E (bE p y.vs::bE q [Iv 0,Iv 0,Iv 0,Iv 0,Iv 0,.bool false]::L) w',ld c 1 rfl rfl rfl (eD (λj=>ld c 1 rfl rfl rfl (ld c 1 rfl rfl rfl ?_)) (λj=>?_)),?_⟩
 ·obtain⟨s,t⟩:=hx;rw[cH (n:=a-x.a) bA bA,cH bA bA];refine St.i c.swap (by show 4<6;decide) (λm g=>?_);have e:(x.vs.set 4 (Iv (x.idx+(a-x.a))))=y.vs:=by rw[k];show _= [_,_,_,_,Value.int .i64 (if x.kind=2 then x.idx+(a-x.a)else x.idx),_];rw[bM j];rfl
  exact e▸g
 ·have e:y=x:=by rw[k,bJ j]
  rw[e];exact c.swap
 rintro _ m g;refine St.i g (by show 0<6;decide) (λA l=>St.i l (by show 1<6;decide) (λo d=>?_));have e:((y.vs.set 0 (Iv a)).set 1 (Iv b))=(prt x a b).vs:=by rw[k];rfl
 have d:Sep E (bE p (prt x a b).vs::bE q [Iv 0,Iv 0,Iv 0,Iv 0,Iv 0,.bool false]::L) o:=e▸d;refine gw d (i:=0) rfl (eh _ d.swap rfl (λr f=>?_));have f:Sep E (bE q (prt x a b).vs::bE p (prt x a b).vs::L) r:=f;exact gw f (i:=0) rfl ⟨rfl,f.tail.tail⟩
def EE{x:Rg}{a b:Int}{o:Nat}{s:Sl}{l:List Rg}(hx:x.fits)(u:0<=a/\a<=131072)(g:s.n=l.length)(C:l.length<1000000)(h:Sep E (bE o [Sv s]::cP s l::L) w):
  Calls P yP #[.agg x.vs.toArray,Iv a,Iv b,Pb o] w (bW λv w'=>v=.tuple #[]/\∃s':Sl,s'.n=(l++dX x a b).length/\Sep E (bE o [.slice s'.p s'.n s'.c]::cP s' (l++dX x a b)::L) w'):=by
 apply ayk;unfold OO qc zR zY zf;refine Al.i h (λp z h1=>cL (λk=>?_) (λB=>⟨rfl,s,?_⟩))
 ·have h1:Sep E (bE p x.vs::bE o [Sv s]::cP s l::L) z:=h1;refine Dr.i h1 (λw2 e=>⟨s,e.cellAt 1 rfl 0,gw e (i:=0) rfl (use (aKA hx u e) ?_)⟩);rintro _ D ⟨rfl,j⟩;refine⟨_,_,_,_,_,_,rfl,s,j.cellAt 1 rfl 0,rfl,Al.i j (λq A d=>⟨s,d.cellAt 2 rfl 0,rfl,?_⟩)⟩;have d:Sep E (bE q (prt x a b).vs::bE p x.vs::bE o [Sv s]::cP s l::L) A:=d;have y:=Src.bE (n:=1) (c:=1) d (i:=0) rfl p5 rfl (ED (prt x a b));refine bC.append (d.ro 4 [3,0,1,2] rfl) p5 rfl y bA (by rw[g];omega) (λs' F m r=>?_);refine St.i (r.ro 4 [3,0] rfl) (by show 0<1;decide) (λG t=>⟨rfl,s',?_⟩);have f:dX x a b= [prt x a b]:=bM k;rw[f];refine⟨by rw[m,g];simp,?_⟩;unfold cP;rw[mX,o4];exact t
 ·have f:dX x a b= []:=cM;rw[f,hF];exact⟨g,h1.tail⟩
def aLL{s:Sl}{l:List Rg}{a b:Int}(T:0<=a/\a<=65536)(O:0<=b/\b<=131072)(C:s.n=l.length)(U:l.length<400000)(h:Sep E (cP s l::L) w):
  Calls P Jw #[Sv s,Iv a,Iv b] w (bW λv w'=>∃s':Sl,v=.slice s'.p s'.n s'.c/\s'.n=(hh l a b).length/\Sep E (cP s' (hh l a b)::cP s l::L) w'):=by
 apply aA5;unfold Oy qE qF qO qU qW qc zR zZ zg;refine use (EC C bA h) ?_;rintro _ X ⟨rfl,h1⟩;refine⟨_,rfl,cw (λg=>⟨⟨none,0,0⟩,rfl,?_⟩) (λg=>?_)⟩
 ·have g:ft 0 l=false:=by simpa using g
  have e:hh l a b= []:=by unfold hh;rw[g];rfl
  rw[e];exact⟨rfl,bC.none_ h1⟩
 have g:ft 0 l=true:=by simpa using g
 have e:hh l a b=l.flatMap (fL a b):=by unfold hh;rw[bM g]
 rw[e];have hlen:∀k,((l.take k).flatMap (fL a b)).length<=2*k:=by
  intro k;induction k with
  |zero=>simp
  |succ k W=>
   rw[mA,T2,da];have:(l[k]?.toList.flatMap (fL a b)).length<=2:=by
    cases l[k]? with
    |none=>simp
    |some x=>
     simp only[Option.toList_some,nX,List.flatMap_nil,hF];unfold fL dX;split;·split<;>simp
     ·rw[da];split<;>split<;>simp
   omega
 refine Al.i h1 (λo w2 H=>⟨λi w'=>∃k:Nat,i=k/\k<=l.length/\∃s':Sl,s'.n=((l.take k).flatMap (fL a b)).length/\Sep E (bE o [.slice s'.p s'.n s'.c]::cP s' ((l.take k).flatMap (fL a b))::cP s l::L) w',λi _=>(l.length-i).toNat,
  ⟨0,rfl,ec _,⟨none,0,0⟩,rfl,(bC.none_ (m:=6) H).swap⟩,?_⟩)
 rintro _ _ Y ⟨k,rfl,V,s',n,t⟩;refine cL (λS=>?_) (λA=>?_)
 ·obtain⟨x,hx⟩:∃x,l[k]?=some x:=⟨_,dL⟩
  have B:=Rg.fc (Aa g x (eu hx));have R:=hlen k;have c:(l.take (k+1)).flatMap (fL a b)=(l.take k).flatMap (fL a b)++fL a b x:=by rw[mA,hx,T2];simp
  obtain⟨u,y⟩:=B;refine o9 2 t rfl C rfl hx (λ_=>Al.i t (λp Z I=>eh _ I rfl (λN d=>?_)));have d:Sep E (bE p x.vs::bE o [.slice s'.p s'.n s'.c]::cP s' ((l.take k).flatMap (fL a b))::cP s l::L) N:=d;have j:((l.length:Int)-((k+1:Nat):Int)).toNat<((l.length:Int)-(k:Int)).toNat:=by omega
  have em:∀p q:Int,min1 p q=min p q:=λp q=>by unfold min1;split<;>omega
  have G:∀p q:Int,dy p q=max p q:=λp q=>by unfold dy;split<;>omega
  simp only[em,G];refine hk (λA=>gw d (i:=0) rfl (ld d 0 rfl rfl rfl (ld d 0 rfl rfl rfl (use (EE ⟨u,y⟩ bA n bA (d.ro 3 [1,2,0] rfl)) ?_)))) (λK=>gw d (i:=0) rfl (ld d 0 rfl rfl rfl (ld d 0 rfl rfl rfl (use (EE ⟨u,y⟩ bA n bA (d.ro 3 [1,2,0] rfl)) ?_))))
  ·rintro _ F ⟨rfl,s2,z,f⟩;have r:fL a b x=dX x x.a x.b:=bM A;refine⟨rfl,⟨k+1,c1,bA,s2,?_,?_⟩,?_⟩;·rw[c,r];exact z
   ·rw[c,r];exact f.ro 4 [0,1,3] rfl
   ·rw[c1];exact j
  ·rintro _ F ⟨rfl,s2,z,f⟩;have r:fL a b x=dX x x.a (min x.b a)++dX x (max x.a b) x.b:=cM;have Q:(dX x x.a (min x.b a)).length<=1:=by unfold dX;split<;>simp
   have f:Sep E (bE o [Sv s2]::cP s2 ((l.take k).flatMap (fL a b)++dX x x.a (min x.b a))::bE p x.vs::cP s l::L) F:=f;refine⟨rfl,gw f (i:=2) rfl (ld f 2 rfl rfl rfl (ld f 2 rfl rfl rfl (use (EE ⟨u,y⟩ bA z (by rw[da];omega) f) ?_)))⟩;rintro _ aa ⟨rfl,M,D,J⟩;refine⟨rfl,⟨k+1,c1,bA,M,?_,?_⟩,?_⟩;·rw[c,r,<- dc];exact D
   ·rw[c,r,<- dc];exact J.ro 4 [0,1,3] rfl
   ·rw[c1];exact j
 ·have:k=l.length:=by omega
  subst this;rw[fN]at n t;exact⟨s',t.cell 0,s',rfl,n,t.tail⟩
def uf(o:Option Rg):Value:=match o with
 |some x=>.tuple #[.agg x.vs.toArray,.bool true]
 |none=>.tuple #[.agg (Rg.vs ⟨0,0,0,0,0,false⟩).toArray,.bool false]
def aKz{s:Sl}{l:List Rg}{p:Int}(o:s.n=l.length)(C:l.length<1000000)(h:Sep E (cP s l::L) w):Calls P JS #[Sv s,Iv p] w (bW λv w'=>v=uf (kA l p)/\Sep E (cP s l::L) w'):=by
 apply azs;unfold OQ qC qF qQ qU qW zR zg;refine Al.i h (λq O h1=>Al.i h1 (λr w2 m=>?_));have m:Sep E (bE r (Rg.vs ⟨0,0,0,0,0,false⟩)::bE q [Iv p]::cP s l::L) w2:=m;refine use (P5 (A:=bE q [Iv p]) (L:=bE r (Rg.vs ⟨0,0,0,0,0,false⟩)::L) (q:=λx=>x.has p) (λy u f=>⟨_,_,rfl,by kernel_rfl,?_⟩) o C (m.ro 3 [1,2,0] rfl)) ?_
 ·show Calls P J7 #[.agg y.vs.toArray,Pb q] u _;apply awV;unfold OV qD qL zY;refine Al.i f (λt z a=>?_);have a:Sep E (bE t y.vs::bE q [Iv p]::cP s l::bE r (Rg.vs ⟨0,0,0,0,0,false⟩)::L) z:=a;refine ld a 0 rfl rfl rfl (ld a 1 rfl rfl rfl (hN (λj=>ld a 1 rfl rfl rfl (ld a 0 rfl rfl rfl ⟨?_,a.tail⟩)) (λj=>⟨?_,a.tail⟩)));·exact eO Value.bool (pC.2 ⟨λe=>⟨j,e⟩,λe=>e.2⟩)
  ·exact eO Value.bool (c4 λe=>bA).symm
 rintro _ u ⟨rfl,f⟩;have f:Sep E (bE q [Iv p]::cP s l::bE r (Rg.vs ⟨0,0,0,0,0,false⟩)::L) u:=f;have hle:=EA (λx=>x.has p) l;obtain⟨n,k⟩:∃n,eY (λx=>x.has p) l=n:=⟨_,rfl⟩
 have hf:kA l p=if ft 0 l then l[n]? else none:=by unfold kA;rw[k]
 rw[k]at hle ⊢;have zero:∀ {w:World},kA l p=none->Sep E (bE q [Iv p]::cP s l::bE r (Rg.vs ⟨0,0,0,0,0,false⟩)::L) w->jt (Rg.vs ⟨0,0,0,0,0,false⟩) ⟨r,0,none⟩ (λb=>∃F:Int,b.cell? ((⟨r,0,none⟩:Addr).add 0)=some (Iv F)/\∃G:Int,b.cell? ((⟨r,0,none⟩:Addr).add 1)=some (Iv G)/\∃H:Int,b.cell? ((⟨r,0,none⟩:Addr).add 2)=some (Iv H)/\∃I:Int,b.cell? ((⟨r,0,none⟩:Addr).add 3)=some (Iv I)/\∃J:Int,b.cell? ((⟨r,0,none⟩:Addr).add 4)=some (Iv J)/\∃K:Bool,b.cell? ((⟨r,0,none⟩:Addr).add 5)=some (.bool K)/\
   Value.tuple #[.agg #[Iv F,Iv G,Iv H,Iv I,Iv J,.bool K],.bool false]=uf (kA l p)/\Sep E (cP s l::L) b) w:=by
  intro w j M;refine eh _ (M.ro 3 [2,0,1] rfl) rfl (λb B=>gw B (i:=0) rfl ⟨by rw[j];rfl,B.ro 3 [2] rfl⟩)
 refine⟨_,rfl,cL (λd=>zero ?_ f) (λD=>use (EC o C (f.ro 3 [1,0,2] rfl)) ?_)⟩
 ·rw[hf];split at d;·omega
  ·rw[fH bA];split<;>rfl
 rintro _ z ⟨rfl,a⟩;have a:Sep E (cP s l::bE q [Iv p]::bE r (Rg.vs ⟨0,0,0,0,0,false⟩)::L) z:=a;have d:n<l.length:=by
  rcases gS n l.length with e|e;·exact e
  ·rw[cM]at D;omega
 rw[bM d];refine⟨_,rfl,cw (λc=>zero ?_ (a.ro 3 [1,0,2] rfl)) (λc=>?_)⟩
 ·have c:ft 0 l=false:=by simpa using c
  rw[hf,c];rfl
 ·have c:ft 0 l=true:=by simpa using c
  obtain⟨x,hx⟩:∃x,l[n]?=some x:=⟨_,dD d⟩
  refine o9 0 a rfl o rfl hx (λ_=>eh _ (a.ro 3 [2,0,1] rfl) rfl (λN g=>?_));have g:Sep E (bE r x.vs::cP s l::bE q [Iv p]::L) N:=g;refine gw g (i:=0) rfl ⟨?_,g.ro 3 [1] rfl⟩;rw[hf,c,bM rfl,hx];rfl
def aLM{x:Rg}{p:Int}(hx:x.fits)(hp:0<=p/\p<65536)(h:Sep E L w):Calls P Jy #[.agg x.vs.toArray,Iv p] w (bW λv w'=>v=.agg #[Iv (hi x p).1,Iv (hi x p).2]/\Sep E L w'):=by
 apply aA6;unfold OD qL qU zY zZ;refine Al.i h (λq i h1=>Al.i h1 (λr w2 a=>?_));have a:Sep E (bE r [Iv 0,Iv 0]::bE q x.vs::L) w2:=a;obtain⟨f,g⟩:=hx;refine ld a 1 rfl rfl rfl (eD (λc=>ld a 1 rfl rfl rfl (ld a 1 rfl rfl rfl (ld a 1 rfl rfl rfl (eh _ a rfl (λd b=>?_))))) (λc=>eh _ a rfl (λd b=>?_)))
 ·rw[cH (n:=x.idx+p) bA bA,cH bA bA]at b;have e:hi x p=(x.file,x.idx+p-x.a):=bM c;rw[e];exact ld b 0 rfl rfl rfl (ld b 0 rfl rfl rfl ⟨rfl,b.tail.tail⟩)
 ·have e:hi x p=(-1,p):=bJ c;rw[e];exact ld b 0 rfl rfl rfl (ld b 0 rfl rfl rfl ⟨rfl,b.tail.tail⟩)
end Go.Mp
